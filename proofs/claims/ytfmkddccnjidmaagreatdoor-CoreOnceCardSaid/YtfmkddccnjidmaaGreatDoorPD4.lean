/-
  Lemmas for CoreOnce: part 4 of what it rests on. Conditions: none.
-/
import Derived.Test.YtfmkddccnjidmaaGreatDoorPD3
set_option linter.unusedVariables false
set_option linter.unusedSimpArgs false
set_option maxRecDepth 100000
open Go.IntKind (i64 u64 i8 u8 i32 u32 i16 u16)
namespace Go.Nm
def qcm (s:Sta)(r:Rp):Sta:=match s.sts[r.ag.toNat]? with
 | some (some st)=>{ s with now:=r.sm.came,ms:=(s.ms.hold r.ag (qf7 st.ck r.sm).1.held).1,sts:=s.sts.set r.ag.toNat (some { st with ck:=(qf7 st.ck r.sm).1 }) }
 | _=>s
def qwi (s:Sta)(r:Rp):Sta:=if s.sunk < r.nx then { s with kept:=s.kept.drop (r.nx - s.sunk).toNat,sunk:=r.nx } else s
def q3h (s:Sta)(r:Rp):Sta × List Eff × Int:=
 if r.right=false then (s,[],10) else
 if q1y s r≠0 then (s,[],q1y s r) else
 if r.kind=1 then ({ s with boots:=s.boots+1 },[],0) else
 if r.kind=2 then q7k s r else
 if r.kind=3 then (qcm s r,[],0) else
 if r.kind=4 then ((q76 s r).1,(q76 s r).2,0) else
 if r.kind=5 then (qsl s r,[],0) else
 if r.kind=6 then ((qfi s r.nw).1,(qfi s r.nw).2,0) else
 (qwi s r,[],0)
theorem q27 {s:Sta}{r:Rp}(ok:q25 s)(hL:RLim r)(h:q1y s r=0)(hk:r.kind=3∨r.kind=4∨r.kind=5):∃st,s.sts[r.ag.toNat]?=some (some st):=by
 unfold q1y at h;rw [if_neg (by omega),if_neg (by omega)] at h;unfold qfj at h;have hep:=hL.ep.1 hk
 split at h
 ·simp at h
 ·rename_i hn;have his:isE s r.ag r.ep=true:=by
   cases e:isE s r.ag r.ep
   ·exact absurd ⟨by omega,e⟩ hn
   ·rfl
  unfold isE at his;rw [z8w] at his;exact (ok.str (z8s his.1)).2
end Go.Nm
namespace Go.Proofs.YtfmkddccnjidmaaGreatDoor
open Go.Nm
section
variable {F L:List Assn} {H:Heap} {K KP:Value→Heap→Prop} {Q Q':Assn}
set_option maxHeartbeats 4000000 in
theorem qmd {sb:Nat}{s:Sta}{r:Rp}{a:Option Addr}{c:Nat}{evs:List Ev}(ok:q25 s)(hs:s.sunk≤4611686018427387903)(hkl:s.kept.length≤100000000000)(hr:z3d Q F r a evs)(h:SatL H (Q::stA Q sb s::F))
  (k:∀Q' a' c' H',Sub Q Q'→SatL H' (Q'::slA 66 87 a' (q3h s r).2.1.length c' (flat q37 (q3h s r).2.1)::stA Q' sb (q3h s r).1::F)→K (.tuple #[.slice a' (q3h s r).2.1.length c',I64 (q3h s r).2.2]) H') :
  CF 17 #[PA sb 0,.agg ⟨encR r a c⟩] H K:=by
 have hel:r.evs.length=evs.length:=by rw [hr.eq,z9c]
 refine z19 ?_;refine h.al fun b H0 h=>⟨_,_,_,_,_,_,_,_,_,_,_,_,_,_,h.q 0,?_⟩
 unfold q3h at k;refine q8s hr.eq h ⟨fun H h=>hr.rd H h.tl.tl.tl,fun e he H h=>(hr.labs e he).at h 1 rfl⟩ (by have:=hr.len; omega) fun H1 h=>⟨_,rfl,fun hc=>?_,fun hc=>?_⟩
 ·rw [if_pos (by simpa using hc)] at k;have h:=h.o [1,2] 3;exact k Q none 0 _ (Sub.refl Q) ((h.sl_nil 66 87).o [1,0,2] 3)
 have hR:r.right=true:=by simpa using hc
 have hL:=q1j hR;rw [if_neg (by rw [hR]; simp)] at k;have h:=h.o [2,0,1] 3;refine⟨_,_,_,_,_,_,_,_,_,_,_,_,_,_,h.q 1,?_⟩;refine qwh ok hs hkl hR h fun H2 h=>⟨_,rfl,fun hc=>?_,fun hc=>?_⟩
 ·rw [if_pos (by simpa using hc)] at k;have h:=h.o [0,2] 3;exact k Q none 0 _ (Sub.refl Q) ((h.sl_nil 66 87).o [2,0,1] 3)
 have hrf:q1y s r=0:=by simpa using hc
 rw [if_neg (by rw [hrf]; simp)] at k;refine⟨_,h.r 1,?_⟩;intro Jn hJ;have fin:∀(s':Sta) H',(∀Q' a' c' H',Sub Q Q'→SatL H' (Q'::slA 66 87 a' 0 c' []::stA Q' sb s'::F)→K (.tuple #[.slice a' 0 c',I64 0]) H')→SatL H' (stA Q sb s'::Q::F)→Jn H':=by
  intro s' H' kk h;refine hJ _ ?_;exact kk Q none 0 _ (Sub.refl Q) ((h.sl_nil 66 87).o [2,0,1] 3)
 refine⟨fun hk=>?_,fun hk=>?_⟩
 ·have hk:=z8s hk;rw [if_pos hk] at k;obtain⟨p,h⟩:=q0i.1 h;refine⟨_,h.r 0,?_⟩;refine h.st 0 rfl rfl ?_;intro H3 h;have hb:=ok.boots;rw [w64 (x:=s.boots+1)] at h;have h:=h.o [0,1,2,3,4,5,6,7,8,10] 11;have h:SatL H3 (stA Q sb { s with boots:=s.boots+1 }::_):=q0i.2 ⟨p,h⟩;exact fin _ _ k h
 have hk1:=z8v hk;rw [if_neg hk1] at k;refine⟨fun hk=>?_,fun hk=>?_⟩
 ·have hk2:=z8s hk;rw [if_pos hk2] at k;refine⟨_,_,_,_,_,_,_,_,_,_,_,_,_,_,h.q 1,?_⟩;refine Grant_spec ok hR hk2 h fun a' c' H3 h=>⟨_,_,_,_,rfl,?_⟩
  exact k Q a' c' H3 (Sub.refl Q) (h.o [3,0,1] 4)
 have hk2:=z8v hk;rw [if_neg hk2] at k;intro Jn1 hJ1;have fin1:∀(s':Sta) H',(∀Q' a' c' H',Sub Q Q'→SatL H' (Q'::slA 66 87 a' 0 c' []::stA Q' sb s'::F)→K (.tuple #[.slice a' 0 c',I64 0]) H')→SatL H' (stA Q sb s'::Q::F)→Jn1 H':=by
  intro s' H' kk h;refine hJ1 _ ?_;exact fin s' H' kk h
 refine⟨fun hk=>?_,fun hk=>?_⟩
 ·have hk3:=z8s hk;rw [if_pos hk3] at k;obtain⟨st,hst⟩:=q27 ok hL hrf (.inl hk3);unfold qcm at k;rw [hst] at k;dsimp only at k;have hsok:=ok.sts st (z9i hst);have hag':((r.ag.toNat:Nat):Int)=r.ag:=by have:=hL.ag; omega
  obtain⟨p,h⟩:=q0i.1 h;have h:=h.o [7,0,1,2,3,4,5,6,8,9,10] 11;obtain⟨stb,bl,hole,h⟩:=q7j h hst;have h:=h.o [1,0,2,3,4,5,6,7,8,9,10,11,12] 13;obtain⟨cb,hb,h⟩:=q1c.1 h;have hptr:=qah hole h 3 rfl;rw [hag'] at hptr;refine⟨_,h.r 5,_,h.r 13,_,hptr,q01 ⟨_,h.rd 0 rfl 0,_,_,_,_,h.q 13,?_⟩⟩;have h:=h.o [1,0,2,3,4,5,6,7,8,9,10,11,12,13,14] 15;refine z1k (s:=r.sm) hsok.ck h fun H3 h=>⟨_,rfl,_,h.r 5,_,h.r 13,q01 ⟨_,h.rd 1 rfl 0,_,qa8 h,?_⟩⟩
  have h:=h.o [8,9,0,1,2,3,4,5,6,7,10,11,12,13,14] 15;refine Ma.Hold_spec (a:=r.ag) (v:=(qf7 st.ck r.sm).1.held) h fun H4 h=>⟨_,rfl,_,h.r 13,?_⟩
  refine h.st 7 rfl rfl ?_;intro H5 h;refine fin1 _ _ k ?_;have h:=h.o [3,2,4,5,6,7,8,9,0,1,10,11,12,14] 15;have h:SatL H5 (strA Q stb { st with ck:=(qf7 st.ck r.sm).1 }::_):=q1c.2 ⟨cb,hb,h⟩;have h:=h.o [1,0,2,3,4,5,6,7,8,9,10,11] 12;have h:=q8t hole h;exact q0i.2 ⟨p,h.o [1,2,3,4,5,6,7,0,8,9] 10⟩
 have hk3:=z8v hk;rw [if_neg hk3] at k;refine⟨fun hk=>?_,fun hk=>?_⟩
 ·have hk4:=z8s hk;rw [if_pos hk4] at k;obtain⟨st,hst⟩:=q27 ok hL hrf (.inr (.inl hk4));have hb:=hL.evs hk4;unfold q4v at hb;simp only [z8w,z8u,z9v] at hb;refine⟨_,_,_,_,_,_,_,_,_,_,_,_,_,_,h.q 1,?_⟩;have h:=h.o [2,0,1] 3;refine qwg (evs:=evs) ok hL.ag.1 hst ⟨hr.eq,fun H h=>hr.rd H h.tl,hr.labs,hr.len,hr.vals⟩ (fun e he=>hb.2.2 e he) (by omega) h fun Q2 a' c' H3 hs2 h=>⟨_,_,_,rfl,?_⟩
  exact k Q2 a' c' H3 hs2 (h.o [0,1,2] 4)
 have hk4:=z8v hk;rw [if_neg hk4] at k;intro Jn2 hJ2;have fin2:∀(s':Sta) H',(∀Q' a' c' H',Sub Q Q'→SatL H' (Q'::slA 66 87 a' 0 c' []::stA Q' sb s'::F)→K (.tuple #[.slice a' 0 c',I64 0]) H')→SatL H' (stA Q sb s'::Q::F)→Jn2 H':=by
  intro s' H' kk h;refine hJ2 _ ?_;exact fin1 s' H' kk h
 refine⟨fun hk=>?_,fun hk=>?_⟩
 ·have hk5:=z8s hk;rw [if_pos hk5] at k;obtain⟨st,hst⟩:=q27 ok hL hrf (.inr (.inr hk5));refine⟨_,_,_,_,_,_,_,_,_,_,_,_,_,_,h.q 1,?_⟩;refine z7i ok hL.ag.1 hst h fun H3 h=>⟨rfl,fin2 _ _ k (h.o [0,2] 3)⟩
 have hk5:=z8v hk;rw [if_neg hk5] at k;refine⟨fun hk=>?_,fun hk=>?_⟩
 ·have hk6:=z8s hk;rw [if_pos hk6] at k;refine⟨_,h.r 1,?_⟩;refine Tick_spec ok hs hkl h fun a' c' H3 h=>⟨_,_,_,rfl,?_⟩
  exact k Q a' c' H3 (Sub.refl Q) (h.o [3,0,1] 4)
 have hk6:=z8v hk;rw [if_neg hk6] at k;intro Jn3 hJ3;have fin3:∀(s':Sta) H',(∀Q' a' c' H',Sub Q Q'→SatL H' (Q'::slA 66 87 a' 0 c' []::stA Q' sb s'::F)→K (.tuple #[.slice a' 0 c',I64 0]) H')→SatL H' (stA Q sb s'::Q::F)→Jn3 H':=by
  intro s' H' kk h;refine hJ3 _ ?_;exact fin2 s' H' kk h
 have hk7:r.kind=7:=by have:=hL.kind; omega
 refine⟨fun _=>?_,fun hk=>absurd hk7 (z8v hk)⟩
 obtain⟨p,h⟩:=q0i.1 h;refine⟨_,h.r 9,_,h.r 0,?_⟩;intro Jn4 hJ4;have fin4:∀(s':Sta) H',(∀Q' a' c' H',Sub Q Q'→SatL H' (Q'::slA 66 87 a' 0 c' []::stA Q' sb s'::F)→K (.tuple #[.slice a' 0 c',I64 0]) H')→SatL H' (stA Q sb s'::Q::F)→Jn4 H':=by
  intro s' H' kk h;refine hJ4 _ ?_;exact fin3 s' H' kk h
 unfold qwi at k;refine⟨fun hk=>?_,fun hk=>?_⟩
 ·have hk:=z8s hk;rw [if_pos hk] at k;have hnx:r.nx≤s.next:=by
   unfold q1y at hrf;rw [if_neg hk1,if_pos hk7] at hrf
   split at hrf
   ·simp at hrf
   ·omega
  have hnx:r.nx≤s.sunk+(s.kept.length:Int):=hnx;have hs0:=ok.sunk;have hnx0:=hL.nx;have hw:i64.wrap (r.nx - s.sunk)=((r.nx - s.sunk).toNat:Nat):=by rw [w64]; omega
  refine⟨_,_,_,h.r 0,_,h.r 9,_,h.r 0,?_⟩;dsimp only;rw [hw];have h:=h.o [8,0,1,2,3,4,5,6,7,9,10] 11;refine qs9 (j:=(r.nx - s.sunk).toNat) (by omega) h fun H3 h=>⟨_,_,_,rfl,?_⟩
  refine h.st 1 rfl rfl ?_;intro H4 h;refine⟨_,h.r 9,?_⟩;refine h.st 1 rfl rfl ?_;intro H5 h;refine fin4 _ _ k ?_;refine q0i.2 ⟨p,?_⟩;have e:(s.kept.drop (r.nx - s.sunk).toNat).length=s.kept.length - (r.nx - s.sunk).toNat:=z9m ..;simp only [q3g,e];exact h.o [1,2,3,4,5,6,7,8,0,10] 11
 ·rw [if_neg (z8v hk)] at k;refine fin4 _ _ k (q0i.2 ⟨p,h.o [0,1,2,3,4,5,6,7,8,10] 11⟩)
end
end Go.Proofs.YtfmkddccnjidmaaGreatDoor
namespace Go.Nm
section
variable {α:Type}
theorem qsn {next most B:Int}:∀{l:List α} {n:Int} {s:RowL α × Int},(∀p∈s.1,p.1 < B)→n+l.length≤B→∀p∈(q2i next most n l s).1,p.1 < B
 | [],n,s,h,_=>h
 | v::vs,n,s,h,hn=>by
  rw [z8y] at hn;refine qsn (l:=vs) (fun p hp=>?_) (by omega)
  unfold q20 at hp
  split at hp
  ·exact h p hp
  ·split at hp
   ·exact h p hp
   ·rcases qi6.1 hp with rfl|hp
    ·show n < B; omega
    ·exact h p hp
theorem pop_le {B:Int}:∀{l:RowL α} {next:Int},next≤B→(∀p∈l,p.1 < B)→(pop next l).2.1≤B
 | [],next,h,_=>h
 | (n,v)::r,next,h,hl=>by
  unfold pop
  split
  ·rename_i e;have:=hl _ (z98 ..);exact pop_le (l:=r) (next:=next+1) (by dsimp only at this; omega) fun p hp=>hl p (z99 _ hp)
  ·exact h
theorem qyn {s:HS α}{first B:Int}{items:List α}(h1:s.next≤B)(h2:∀p∈s.rows,p.1 < B)(h3:first+items.length≤B) :
  (s.offer first items).1.next≤B∧∀p∈(s.offer first items).1.rows,p.1 < B:=by
 unfold HS.offer
 split
 ·exact⟨h1,h2⟩
 ·have h:=qsn (next:=s.next) (most:=s.most) (l:=items) (n:=first) (s:=(s.rows,0)) h2 h3;exact⟨pop_le h1 h,fun p hp=>h p (qvz.2 p hp)⟩
end
theorem qso (ms:MS)(a t:Int):(ms.raise a t).1.lag=ms.lag:=by
 unfold MS.raise
 split
 ·rfl
 ·split <;> rfl
theorem hold_lag (ms:MS)(a:Int)(b:Bool):(ms.hold a b).1.lag=ms.lag:=by
 unfold MS.hold; split <;> rfl
theorem z7l (ms:MS)(a:Int):(ms.leave a).1.lag=ms.lag:=by
 unfold MS.leave; split <;> rfl
theorem join_lag (ms:MS)(a t:Int):(ms.join a t).1.lag=ms.lag:=by
 unfold MS.join
 split
 ·rfl
 ·split <;> rfl
theorem tick_lag (ms:MS)(t:Int):(ms.tick t).1.lag=ms.lag:=by
 unfold MS.tick; split <;> rfl
theorem qsp {c:Cfg}{now a:Int}{st:Str}{ms:MS}{cm:CM}{e:Pv}(h:MOk ms):MOk (q23 c now a st ms cm e).ms∧(q23 c now a st ms cm e).ms.lag=ms.lag:=by
 have h1:=h.raise a (q1q st.ck (flOf ms a) now e.stamp).1.lo;have h2:=qso ms a (q1q st.ck (flOf ms a) now e.stamp).1.lo;unfold q23
 split
 ·exact⟨h,rfl⟩
 split
 ·exact⟨h,rfl⟩
 split
 ·exact⟨h1,h2⟩
 split
 ·exact⟨h1,h2⟩
 split <;> exact⟨h1,h2⟩
theorem qsq {c:Cfg}{now a ep first:Int}{evs:List Pv}{x:JS}(h:MOk x.ms)(hl:-1≤x.st.last∧x.st.last≤4611686018427387903)(he:∀e∈evs,q7p e=true):∀n,n≤evs.length→
  MOk (q16 c now a ep first evs x n).1.ms∧(q16 c now a ep first evs x n).1.ms.lag=x.ms.lag∧-1≤(q16 c now a ep first evs x n).1.st.last∧(q16 c now a ep first evs x n).1.st.last≤4611686018427387903
 | 0,_=>⟨h,rfl,hl⟩
 | n+1,hn=>by
  have ih:=qsq (c:=c) (now:=now) (a:=a) (ep:=ep) (first:=first) h hl he n (by omega);have hj:=qjp c now a (q16 c now a ep first evs x n).1.st (q16 c now a ep first evs x n).1.ms (q16 c now a ep first evs x n).1.cm (evs.getD n Pv.z);have hm:=qsp (c:=c) (now:=now) (a:=a) (st:=(q16 c now a ep first evs x n).1.st) (cm:=(q16 c now a ep first evs x n).1.cm) (e:=evs.getD n Pv.z) ih.1;have hev:q7p (evs.getD n Pv.z)=true:=by rw [q8o _ (by omega)]; exact he _ (z92 _)
  unfold q7p at hev;simp only [z8w,z8u] at hev;refine⟨hm.1,hm.2.trans ih.2.1,?_⟩;show -1≤(q23 c now a _ _ _ _).st.last∧(q23 c now a _ _ _ _).st.last≤_
  rcases hj.2.2 with e|e
  ·rw [e]; exact ih.2.2
  ·rw [e]; omega
theorem q25.setStr {s:Sta}(ok:q25 s){k:Nat}{st st':Str}{now:Int}{ms:MS}{cm:CM}(hk:s.sts[k]?=some (some st))(h1:isT now)(h2:MOk ms)(h3:ms.lag=s.ms.lag)(h4:ShOk s.cfg.cells cm)(h5:qgt s.cfg st') :
  q25 { s with now:=now,ms:=ms,cm:=cm,sts:=s.sts.set k (some st') }:=by
 have hlt:k < s.sts.length:=(List.getElem?_eq_some_iff.1 hk).1;refine⟨ok.cfg,h1,ok.boots,ok.sunk,ok.rows,h2,h3.trans ok.lag,h4,?_,fun x hx=>?_,fun j=>?_,ok.kept⟩
 ·show (s.sts.set k _).length=64;rw [List.length_set,ok.len]
 ·rcases zbe hx with hx|hx
  ·exact ok.sts x hx
  ·cases hx; exact h5
 ·rw [← ok.reg j];show (∃x,(s.sts.set k (some st'))[j]?=some (some x))↔_
  by_cases e:j=k
  ·subst e;rw [List.getElem?_set_self hlt];exact⟨fun _=>⟨st,hk⟩,fun _=>⟨st',rfl⟩⟩
  ·rw [List.getElem?_set_ne (by omega)]
theorem q25.upd {s:Sta}(ok:q25 s){now:Int}{ms:MS}{cm:CM}{kept:List Ot}{sunk boots:Int}(h1:isT now)(h2:MOk ms)(h3:ms.lag=s.ms.lag)(h4:ShOk s.cfg.cells cm)(h5:∀o∈kept,WC o.2)(h6:0≤sunk)(h7:0≤boots∧boots≤1099511627776) :
  q25 { s with now:=now,ms:=ms,cm:=cm,kept:=kept,sunk:=sunk,boots:=boots }:=
 ⟨ok.cfg,h1,h7,h6,ok.rows,h2,h3.trans ok.lag,h4,ok.len,ok.sts,ok.reg,h5⟩
theorem qhb {most:Int}{m:CM}(h:ShOk most m):∀o∈q0j m,WC o.2:=by
 intro o ho;unfold q0j at ho;obtain⟨k,_,rfl⟩:=z90.1 ho;exact h.cell k
theorem z7m {c:Cfg}(h:qbk c):qgt c (q95 c) where
 ck:=⟨by simp [q95],fun s hs=>absurd hs (by simp [q95]),by show (0:Int)≤0∧(0:Int)≤9223372036854775807; decide⟩
 rho:=rfl
 least:=rfl
 hs:=⟨by show (0:Int)≤0; decide,h.hd.1,h.hd.2,⟨by simp [q95,q3w],fun p hp=>absurd hp (by simp [q95])⟩⟩
 most:=rfl
 next:=by show (0:Int)≤_; decide
 rows:=fun p hp=>absurd hp (by simp [q95])
 last:=by show (-1:Int)≤-1∧(-1:Int)≤4611686018427387903; decide
theorem z3e (c:Ck)(s:Smp):(qf7 c s).1.rho=c.rho∧(qf7 c s).1.least=c.least:=by
 unfold qf7
 split
 ·exact⟨rfl,rfl⟩
 ·dsimp only;generalize qg6 _=B
  cases B <;> exact⟨rfl,rfl⟩
theorem batch_ok {s:Sta}{r:Rp}(ok:q25 s)(hL:RLim r)(hk:r.kind=4){st:Str}(hst:s.sts[r.ag.toNat]?=some (some st))(hv:∀e∈r.evs,wf64 e.value):q25 (q76 s r).1:=by
 have hsok:=ok.sts st (z9i hst);have hb:=hL.evs hk;unfold q4v at hb;simp only [z8w,z8u,z9v] at hb;obtain⟨⟨hb1,hb2⟩,⟨⟨hb3,hb4⟩,hb5⟩,hb6⟩:=hb;have ho:=HS.offer_ok hsok.hs r.nx r.evs;have hm:=qad (s:=st.hs) (first:=r.nx) (items:=r.evs);have hlt:=qyn (s:=st.hs) (first:=r.nx) (B:=1099511627776) (items:=r.evs) hsok.next (fun p hp=>(hsok.rows p hp).1) (by omega)
 unfold q76;rw [hst];dsimp only;unfold qai;generalize st.hs.offer r.nx r.evs=O at *;have good:∀e∈O.2.1,q7p e=true∧wf64 e.value:=by
  intro e he
  rcases hm.1 e he with h|⟨q,h,rfl⟩
  ·exact⟨hb6 e h,hv e h⟩
  ·exact (hsok.rows q h).2
 have hj:=qjq (c:=s.cfg) (now:=r.nw) (a:=r.ag) (ep:=r.ep) (first:=st.hs.next) (evs:=O.2.1) (x:=⟨{ st with hs:=O.1 },s.ms,s.cm⟩) ok.sh (fun e he=>(good e he).2) O.2.1.length (z91 _)
 have hj2:=qsq (c:=s.cfg) (now:=r.nw) (a:=r.ag) (ep:=r.ep) (first:=st.hs.next) (evs:=O.2.1) (x:=⟨{ st with hs:=O.1 },s.ms,s.cm⟩) ok.ms hsok.last (fun e he=>(good e he).1) O.2.1.length (z91 _)
 generalize q16 s.cfg r.nw r.ag r.ep st.hs.next O.2.1 ⟨{ st with hs:=O.1 },s.ms,s.cm⟩ O.2.1.length=G at *;refine ok.setStr hst hL.nw hj2.1 hj2.2.1 hj.1 ⟨by rw [hj.2.1]; exact hsok.ck,by rw [hj.2.1]; exact hsok.rho,by rw [hj.2.1]; exact hsok.least,by rw [hj.2.2.1]; exact ho.1,by rw [hj.2.2.1]; exact ho.2.2.2.trans hsok.most,by rw [hj.2.2.1]; exact hlt.1,?_,hj2.2.2⟩;rw [hj.2.2.1];intro p hp;refine⟨hlt.2 p hp,?_⟩
 rcases hm.2 p hp with h|h
 ·exact⟨hb6 _ h,hv _ h⟩
 ·exact (hsok.rows p h).2
theorem qcn {most:Int}{rows:List En}(hr:q39 rows)(a b n:Int) :
  ((grant most rows a b n).2.2.1=true∧(grant most rows a b n).1=rows.set a.toNat (grant most rows a b n).2.1∧0 < (grant most rows a b n).2.1.epoch∧(grant most rows a b n).2.2.2=0∧(grant most rows a b n).2.1.epoch=(rowE rows a).epoch+1)∨
  ((grant most rows a b n).2.2.1=false∧(grant most rows a b n).1=rows∧((grant most rows a b n).2.2.2=0→(grant most rows a b n).2.1=rowE rows a∧0 < (rowE rows a).epoch)):=by
 have h0:=(hr.at a).1;unfold grant
 split
 ·exact .inr ⟨rfl,rfl,fun h=>by simp at h⟩
 dsimp only
 split
 ·rename_i h; exact .inr ⟨rfl,rfl,fun _=>⟨rfl,h.1⟩⟩
 split
 ·exact .inr ⟨rfl,rfl,fun h=>by simp at h⟩
 split
 ·exact .inr ⟨rfl,rfl,fun h=>by simp at h⟩
 split
 ·exact .inr ⟨rfl,rfl,fun h=>by simp at h⟩
 ·exact .inl ⟨rfl,rfl,by show 0 < (rowE rows a).epoch+1; omega,rfl,rfl⟩
theorem oldM_ok {s:Sta}(ok:q25 s)(a:Int):MOk (oldM s a)∧(oldM s a).lag=s.ms.lag:=by
 unfold oldM
 split
 ·exact⟨ok.ms.leave a,z7l _ _⟩
 ·exact⟨ok.ms,rfl⟩
theorem z7n {s:Sta}{r:Rp}(ok:q25 s)(hL:RLim r):q25 (q7k s r).1:=by
 have hg:=qcn (most:=s.cfg.agents) ok.rows r.ag r.bt r.nw;have hgo:=Go.Nm.grant_ok (most:=s.cfg.agents) ok.rows r.ag r.bt r.nw;have ho:=oldM_ok ok r.ag;unfold q7k
 split
 ·exact ok
 split
 ·rename_i hf
  rcases hg with ⟨-,g2,g3,g4,-⟩|⟨g1,_⟩
  ·have hlt:r.ag.toNat < s.sts.length:=by rw [ok.len]; have:=hL.ag; omega
   have hltr:r.ag.toNat < s.rows.length:=by rw [ok.rows.len]; have:=hL.ag; omega
   refine⟨ok.cfg,hL.nw,ok.boots,ok.sunk,hgo,ho.1.join _ _,(join_lag _ _ _).trans (ho.2.trans ok.lag),ok.sh,?_,fun x hx=>?_,fun j=>?_,ok.kept⟩
   ·show (s.sts.set _ _).length=64;rw [List.length_set,ok.len]
   ·rcases zbe hx with hx|hx
    ·exact ok.sts x hx
    ·cases hx; exact z7m ok.cfg
   ·dsimp only;rw [g2]
    by_cases e:j=r.ag.toNat
    ·subst e;rw [List.getElem?_set_self hlt,List.getElem?_set_self hltr];exact⟨fun _=>⟨_,rfl,g3⟩,fun _=>⟨_,rfl⟩⟩
    ·rw [List.getElem?_set_ne (by omega),List.getElem?_set_ne (by omega)];exact ok.reg j
  ·rw [g1] at hf; cases hf
 ·rename_i hf
  rcases hg with ⟨g1,_⟩|⟨-,g2,_⟩
  ·exact absurd g1 hf
  ·dsimp only;rw [g2];exact ok.upd (kept:=s.kept) (sunk:=s.sunk) (boots:=s.boots) hL.nw ok.ms rfl ok.sh ok.kept ok.sunk ok.boots
theorem qme {m:CM}{b:Int}{o:Ot}(h:o∈q4o m b):o∈q0j m:=(List.takeWhile_sublist _).subset h
theorem apply_ok {s:Sta}{r:Rp}(ok:q25 s)(hv:∀e∈r.evs,wf64 e.value):q25 (q3h s r).1:=by
 unfold q3h
 split
 ·exact ok
 rename_i hR;have hR:r.right=true:=by simpa using hR
 have hL:=q1j hR
 split
 ·exact ok
 rename_i hrf;have hrf:q1y s r=0:=by simpa using hrf
 split
 ·rename_i hk;have hb:s.boots < 1099511627776:=by
   unfold q1y at hrf;rw [if_pos hk] at hrf
   split at hrf
   ·simp at hrf
   ·omega
  exact ok.upd (now:=s.now) (kept:=s.kept) (sunk:=s.sunk) (boots:=s.boots+1) ok.now ok.ms rfl ok.sh ok.kept ok.sunk (by have:=ok.boots; omega)
 split
 ·exact z7n ok hL
 split
 ·rename_i hk;obtain⟨st,hst⟩:=q27 ok hL hrf (.inl hk);have hsok:=ok.sts st (z9i hst);unfold qcm;rw [hst];have hc:=z3e st.ck r.sm;have hsm:=hL.sm;unfold Smp.ok at hsm;exact ok.setStr hst hsm.2.2.2.1 (ok.ms.hold _ _) (hold_lag _ _ _) ok.sh ⟨ckAdd_ok hsok.ck r.sm,hc.1.trans hsok.rho,hc.2.trans hsok.least,hsok.hs,hsok.most,hsok.next,hsok.rows,hsok.last⟩
 split
 ·rename_i hk;obtain⟨st,hst⟩:=q27 ok hL hrf (.inr (.inl hk));exact batch_ok ok hL hk hst hv
 split
 ·rename_i hk;obtain⟨st,hst⟩:=q27 ok hL hrf (.inr (.inr hk));have hsok:=ok.sts st (z9i hst);have same:=ok.upd (now:=r.nw) (kept:=s.kept) (sunk:=s.sunk) (boots:=s.boots) hL.nw ok.ms rfl ok.sh ok.kept ok.sunk ok.boots;unfold qsl;rw [hst];dsimp only
  split
  ·exact same
  split
  ·exact same
  ·have:=hL.st;exact ok.setStr hst hL.nw (ok.ms.raise _ _) (qso _ _ _) ok.sh ⟨hsok.ck,hsok.rho,hsok.least,hsok.hs,hsok.most,hsok.next,hsok.rows,by show -1≤r.st∧r.st≤4611686018427387903; omega⟩
 split
 ·unfold qfi;exact ok.upd (sunk:=s.sunk) (boots:=s.boots) hL.nw (ok.ms.tick _) (tick_lag _ _) (z7d ok.sh) (fun o ho=>by
   rcases za4.1 ho with ho|ho
   ·exact ok.kept o ho
   ·exact qhb ok.sh o (qme ho)) ok.sunk ok.boots
 ·unfold qwi
  split
  ·exact ok.upd (now:=s.now) (boots:=s.boots) ok.now ok.ms rfl ok.sh (fun o ho=>ok.kept o (zaz ho)) hL.nx.1 ok.boots
  ·exact ok
def cfgR (c:Cfg):Bool:=decide c.gd.ok && decide (1≤c.lag∧c.lag≤1099511627776) && decide (q34 c.rho∧0≤c.trust∧c.trust≤100) && decide (1≤c.agents∧c.agents≤64) && decide (1≤c.cells∧c.cells≤1024) && decide (1≤c.hold∧c.hold≤256)
theorem qjs {c:Cfg}(h:cfgR c=true):qbk c:=by
 unfold cfgR at h;simp only [z8w,z8u] at h;obtain⟨⟨⟨⟨⟨h1,h2⟩,h3⟩,h4⟩,h5⟩,h6⟩:=h;exact⟨h1,h2,h3,h4,h5,h6⟩
def newS (c:Cfg):Sta:=⟨c,0,0,0,List.replicate 64 En.z,MS.new c.lag,[],List.replicate 64 none,[]⟩
theorem qco {c:Cfg}(h:qbk c):q25 (newS c) where
 cfg:=h
 now:=by show isT 0; decide
 boots:=by show (0:Int)≤0∧(0:Int)≤1099511627776; decide
 sunk:=by show (0:Int)≤0; decide
 rows:=z2w
 ms:=MOk.new h.lag.1 h.lag.2
 lag:=rfl
 sh:=⟨h.cl.1,h.cl.2,by simp [newS],fun p hp=>absurd hp (by simp [newS]),fun p hp=>absurd hp (by simp [newS]),fun p hp=>absurd hp (by simp [newS]),by have:=h.cl; simp [newS]; omega⟩
 len:=by simp [newS]
 sts:=fun st hs=>by
  have:=zbq hs
  cases this
 reg:=fun k=>by
  unfold newS;dsimp only;rw [List.getElem?_replicate,List.getElem?_replicate]
  by_cases hk:k < 64
  ·rw [if_pos hk,if_pos hk]
   constructor
   ·rintro⟨st,h⟩; cases h
   ·rintro⟨e,h,h2⟩; cases h; simp [En.z] at h2
  ·rw [if_neg hk,if_neg hk]
   constructor
   ·rintro⟨st,h⟩; cases h
   ·rintro⟨e,h,h2⟩; cases h
 kept:=fun o ho=>absurd ho (by simp [newS])
structure AgR where
 en:En
 fl:Fl
 last:Int
 next:Int
 wait:Int
 smps:Int
def AgR.z:AgR:=⟨En.z,Fl.z,0,0,0,0⟩
abbrev encA (x:AgR):List Value:=[I64 x.en.epoch,I64 x.en.boot,I64 x.en.time,I64 x.fl.t,.bool x.fl.out,.bool x.fl.was,.bool x.fl.held,I64 x.last,I64 x.next,I64 x.wait,I64 x.smps]
def qyo (s:Sta)(a:Int):AgR × Bool:=if 0 < (rowE s.rows a).epoch then (match q3a s a with
 | some st=>(⟨rowE s.rows a,flOf s.ms a,st.last,st.hs.next,(st.hs.rows.length:Nat),(st.ck.smps.length:Nat)⟩,true)
 | none=>(AgR.z,true)) else (AgR.z,false)
def atS (s:Sta)(a stamp:Int):Gp × Int:=match q3a s a with
 | some st=>q1q st.ck (flOf s.ms a) s.now stamp
 | none=>(Gp.z,19)
end Go.Nm
namespace Go.Proofs.YtfmkddccnjidmaaGreatDoor
open Go.Nm
section
variable {F L:List Assn} {H:Heap} {K KP:Value→Heap→Prop} {Q Q':Assn}
def eN (p:Prop)[Decidable p]:Int:=if p then 0 else 11
theorem qsr {p:Prop}[Decidable p](h:p):eN p=0:=if_pos h
theorem qss {p:Prop}[Decidable p](h:¬p):eN p=11:=if_neg h
theorem emp1 (h:SatL H F):SatL H (emp::F):=by
 unfold SatL at *;simpa [star,qbz] using h
theorem MarkE {lag:Int}(h:SatL H F)(k:∀p H',SatL H' F→K (.tuple #[.pointer p,I64 (eN (1≤lag∧lag≤1099511627776))]) H'):CF 52 #[I64 lag] H K:=by
 refine Ma.New_spec h (fun hn=>?_) fun h1 h2 mb rb H' h=>?_
 ·have:=k none H h; rw [qss (by omega)] at this; exact this
 ·have:=k (some ⟨mb,0,none⟩) H' h.tl.tl; rw [qsr ⟨h1,h2⟩] at this; exact this
theorem ClockE {rho least:Int}(h:SatL H F)(k:∀p H',SatL H' F→K (.tuple #[.pointer p,I64 (eN (q34 rho∧0≤least∧least≤100))]) H'):CF 53 #[I64 rho,I64 least] H K:=by
 refine qlp h (fun hn=>?_) fun hp b H' h=>?_
 ·have:=k none H h; rw [qss hn] at this; exact this
 ·have:=k (some ⟨b,0,none⟩) H' h.tl; rw [qsr hp] at this; exact this
theorem RollE {most:Int}(h:SatL H F)(k:∀p H',SatL H' F→K (.tuple #[.pointer p,I64 (eN (1≤most∧most≤64))]) H'):CF 54 #[I64 most] H K:=by
 refine Ro.New_spec h (fun hn=>?_) fun hp rb mb H' h=>?_
 ·have:=k none H h; rw [qss (by omega)] at this; exact this
 ·have:=k (some ⟨rb,0,none⟩) H' h.tl.tl; rw [qsr (by omega)] at this; exact this
theorem ShelfE {most:Int}(h:SatL H F)(k:∀p H',SatL H' F→K (.tuple #[.pointer p,I64 (eN (1≤most∧most≤1024))]) H'):CF 55 #[I64 most] H K:=by
 refine qlw h (fun hn=>?_) fun rb mb H' ok h=>?_
 ·have:=k none H h; rw [qss (by omega)] at this; exact this
 ·have:=k (some ⟨rb,0,none⟩) H' h.tl.tl; rw [qsr ⟨ok.m1,ok.m2⟩] at this; exact this
theorem HoldE {most:Int}(h:SatL H F)(k:∀p H',SatL H' F→K (.tuple #[.pointer p,I64 (eN (1≤most∧most≤256))]) H'):CF 56 #[I64 0,I64 most] H K:=by
 refine qjd (Q:=emp) h (fun hn=>?_) fun hb H' hp h=>?_
 ·have:=k none H h; rw [qss (by omega)] at this; exact this
 ·have:=k (some ⟨hb,0,none⟩) H' h.tl; rw [qsr (by omega)] at this; exact this
theorem eq138 {a b c d e f:Int}:q5v Tryz.prog .eql 138 (.agg #[I64 a,I64 b,I64 c,I64 d,I64 e,I64 f]) (.agg #[I64 0,I64 0,I64 0,I64 0,I64 0,I64 0])
  (decide (a=0) && decide (b=0) && decide (c=0) && decide (d=0) && decide (e=0) && decide (f=0)):=by
 have h:=(qig (P:=Tryz.prog) (t:=138) (xs:=[I64 a,I64 b,I64 c,I64 d,I64 e,I64 f]) (ys:=[I64 0,I64 0,I64 0,I64 0,I64 0,I64 0])
  (r:=(a == 0 && (b == 0 && (c == 0 && (d == 0 && (e == 0 && (f == 0 && true))))))) (by kernel_rfl)).1
 have e:(a == 0 && (b == 0 && (c == 0 && (d == 0 && (e == 0 && (f == 0 && true))))))=(decide (a=0) && decide (b=0) && decide (c=0) && decide (d=0) && decide (e=0) && decide (f=0)):=by
  rw [z9s];simp only [z8w,beq_iff_eq,z8u,Bool.and_true]
  constructor
  ·rintro⟨h1,h2,h3,h4,h5,h6⟩; exact⟨⟨⟨⟨⟨h1,h2⟩,h3⟩,h4⟩,h5⟩,h6⟩
  ·rintro⟨⟨⟨⟨⟨h1,h2⟩,h3⟩,h4⟩,h5⟩,h6⟩; exact⟨h1,h2,h3,h4,h5,h6⟩
 rw [e] at h;exact h
theorem eN0 (p:Prop)[Decidable p]:decide (eN p=0)=decide p:=by
 unfold eN
 by_cases h:p
 ·simp [h]
 ·simp [h]
theorem qe8 {c:Cfg}(h:SatL H F)(k:∀H',SatL H' F→K (.bool (cfgR c)) H'):CF 13 #[.agg ⟨qgr c⟩] H K:=by
 refine qcc ?_;refine h.al fun b _ h=>⟨_,h.r 0,_,h.r 0,_,h.r 0,?_⟩
 refine qrs (g:=c.gd) h fun H2 h=>⟨_,_,_,_,rfl,?_⟩
 refine h.al fun b1 _ h=>?_
 refine h.st 0 rfl rfl ?_;intro H3 h;refine⟨_,h.r 1,MarkE h fun p1 H4 h=>⟨_,_,rfl,_,h.r 1,_,h.r 1,ClockE h fun p2 H5 h=>⟨_,_,rfl,_,h.r 1,RollE h fun p3 H6 h=>⟨_,_,rfl,_,h.r 1,ShelfE h fun p4 H7 h=>⟨_,_,rfl,_,h.r 1,HoldE h fun p5 H8 h=>⟨_,_,rfl,_,eq138,?_⟩⟩⟩⟩⟩⟩
 have e:cfgR c=(decide ((if c.gd.ok then (0:Int) else 11)=0) && decide (eN (1≤c.lag∧c.lag≤1099511627776)=0) && decide (eN (q34 c.rho∧0≤c.trust∧c.trust≤100)=0) && decide (eN (1≤c.agents∧c.agents≤64)=0) && decide (eN (1≤c.cells∧c.cells≤1024)=0) && decide (eN (1≤c.hold∧c.hold≤256)=0)):=by
  have h1:=eN0 c.gd.ok;unfold eN at h1;rw [h1,eN0,eN0,eN0,eN0,eN0]; rfl
 rw [← e];exact k _ h.tl.tl
theorem qfk {c:Cfg}(h:SatL H F)(k1:cfgR c=false→∀H',SatL H' F→K (.tuple #[.pointer none,I64 11]) H')(k2:cfgR c=true→∀sb H',SatL H' (stA Q sb (newS c)::F)→K (.tuple #[PA sb 0,I64 0]) H') :
  CF 16 #[.agg ⟨qgr c⟩] H K:=by
 refine z1a ?_;refine h.al fun b _ h=>⟨_,_,_,_,_,_,_,_,_,h.q 0,?_⟩
 refine qe8 (c:=c) h fun H1 h=>⟨_,rfl,fun hc=>?_,fun hc=>?_⟩
 ·exact k1 (by simpa using hc) _ h.tl
 have hR:cfgR c=true:=by simpa using hc
 have ok:=qjs hR;refine⟨_,_,_,_,_,_,_,_,_,h.q 0,?_⟩;refine h.alm I64 ptV fun tm _ h=>?_
 refine h.al fun sb _ h=>⟨_,h.r 2,_,h.r 2,_,h.r 2,?_⟩
 refine qrs (g:=c.gd) h fun H2 h=>⟨_,_,_,_,rfl,?_⟩
 rw [if_pos ok.gd];refine h.st 0 rfl rfl ?_;intro H3 h;refine⟨_,h.r 2,Ro.New_spec h (fun hn=>absurd ok.ag (by omega)) fun _ rb rm H4 h=>⟨_,_,rfl,?_⟩⟩
 refine h.st 2 rfl rfl ?_;intro H5 h;refine⟨_,h.r 4,Ma.New_spec h (fun hn=>absurd ok.lag (by omega)) fun _ _ mb mm H6 h=>⟨_,_,rfl,?_⟩⟩
 refine h.st 4 rfl rfl ?_;intro H7 h;refine⟨_,h.r 6,qlw h (fun hn=>absurd ok.cl (by omega)) fun hb hm H8 _ h=>⟨_,_,rfl,?_⟩⟩
 refine h.st 6 rfl rfl ?_;intro H9 h;refine k2 hR sb _ (q0i.2 ⟨⟨rb,rm,mb,mm,hb,hm,tm,none,0⟩,?_⟩);have h:=(h.sl_nil 64 74).o [8,0,7,5,6,3,4,1,2] 10;have h2:SatL H9 (strmA Q tm (List.replicate 64 none)::_):=q5m.2 ⟨List.replicate 64 none,by simp,by
  rw [qsf];have e:tabP 0 (List.replicate 64 (none:Option Nat))=[]:=by decide
  rw [e];have:=emp1 h;exact this.o [1,0] 2⟩
 exact h2.o [2,3,4,5,6,7,8,0,1] 9
end
open Go.Nm
section
variable {F L:List Assn} {H:Heap} {K KP:Value→Heap→Prop} {Q Q':Assn} {sb:Nat} {s:Sta}
theorem z7o (h:SatL H (stA Q sb s::F)):q1k Tryz.prog 24 #[PA sb 0] H (I64 s.now):=by
 obtain⟨p,h⟩:=q0i.1 h;exact St_Now_c ⟨_,h.r 0,rfl,rfl⟩
theorem qjt (h:SatL H (stA Q sb s::F)):q1k Tryz.prog 35 #[PA sb 0] H (I64 s.boots):=by
 obtain⟨p,h⟩:=q0i.1 h;exact z13 ⟨_,h.r 0,rfl,rfl⟩
theorem z3f (h:SatL H (stA Q sb s::F)):q1k Tryz.prog 28 #[PA sb 0] H (I64 s.sunk):=by
 obtain⟨p,h⟩:=q0i.1 h;exact z5z ⟨_,h.r 0,rfl,rfl⟩
theorem qwj (h:SatL H (stA Q sb s::F)):q1k Tryz.prog 23 #[PA sb 0] H (I64 s.ms.value):=by
 obtain⟨p,h⟩:=q0i.1 h;exact z17 ⟨_,h.r 0,_,Ma.Value_spec h 3 rfl,rfl,rfl⟩
theorem qmf (hl:s.kept.length≤1000000)(h:SatL H (stA Q sb s::F))
  (k:∀a c H',SatL H' (slA 64 74 a s.kept.length c (flat encO s.kept)::stA Q sb s::F)→K (.slice a s.kept.length c) H'):CF 27 #[PA sb 0] H K:=by
 obtain⟨p,h⟩:=q0i.1 h;refine z60 ⟨_,_,_,h.r 0,?_⟩;refine z2q h (fun H h=>h.sl_rd 8 rfl) hl fun a' c' H' h=>⟨_,_,_,rfl,k _ _ _ ?_⟩
 have h:=h.o [1,2,3,4,5,6,7,8,9,0] 10;have h:=q0i.2 ⟨p,h⟩;exact h.o [1,0] 2
theorem qov {k:Nat}{st:Str}(hst:s.sts[k]?=some (some st)):s.sts.set k (some st)=s.sts:=by
 have hlt:k < s.sts.length:=(List.getElem?_eq_some_iff.1 hst).1;have:s.sts[k]=some st:=by rw [List.getElem?_eq_getElem hlt] at hst; exact Option.some.inj hst
 rw [← this,zau]
theorem z3g {a:Int}(hs:s.sts.length=64)(h:q3a s a=none):a < 0∨s.sts[a.toNat]?=some none∨s.sts[a.toNat]?=none:=by
 unfold q3a at h
 split at h
 ·left; assumption
 ·cases e:s.sts[a.toNat]? with
  | none=>exact .inr (.inr rfl)
  | some x=>
   rw [e] at h
   cases x with
   | none=>exact .inr (.inl rfl)
   | some y=>simp at h
theorem qju {a:Int}{st:Str}(h:q3a s a=some st):0≤a∧s.sts[a.toNat]?=some (some st):=by
 unfold q3a at h
 split at h
 ·cases h
 ·refine⟨by omega,?_⟩
  cases e:s.sts[a.toNat]? with
  | none=>rw [e] at h; simp at h
  | some x=>
   rw [e] at h
   cases x with
   | none=>simp at h
   | some y=>simp at h; rw [h]
set_option maxHeartbeats 1000000 in
theorem z7p {a stamp:Int}(ok:q25 s)(h:SatL H (stA Q sb s::F))(k:∀H',SatL H' (stA Q sb s::F)→K (.tuple #[aggG (atS s a stamp).1,I64 (atS s a stamp).2]) H') :
  CF 31 #[PA sb 0,I64 a,I64 stamp] H K:=by
 refine St_At_c ?_;refine h.al fun b _ h=>?_
 have h:=h.o [1,0] 2;obtain⟨p,h⟩:=q0i.1 h;unfold atS at k
 cases hs:q3a s a with
 | none=>
  rw [hs] at k;refine⟨_,h.r 0,_,z7b (h.o [7] 9) (z3g ok.len hs),fun _=>?_,fun hc=>absurd hc (by simp)⟩
  refine h.st 9 rfl rfl ?_;intro H2 h;refine⟨_,_,h.q 9,?_⟩;have h:=q0i.2 ⟨p,h⟩;exact k _ (h.o [0] 2)
 | some st=>
  rw [hs] at k;obtain⟨ha0,hst⟩:=qju hs;have hag':((a.toNat:Nat):Int)=a:=by omega
  have hsok:=ok.sts st (z9i hst);have h:=h.o [7,0,1,2,3,4,5,6,8,9] 10;obtain⟨stb,bl,hole,h⟩:=q7j h hst;have h:=h.o [1,0,2,3,4,5,6,7,8,9,10,11] 12;obtain⟨cb,hb,h⟩:=q1c.1 h;have hptr:=qah hole h 3 rfl;rw [hag'] at hptr;refine⟨_,h.r 5,_,hptr,fun hc=>absurd hc (by simp),fun _=>?_⟩
  have h:=h.o [5,8,9,0,1,2,3,4,6,7,10,11,12,13] 14;refine qjo (a:=a) (stamp:=stamp) (now:=s.now) hsok.ck.len rfl rfl h fun H3 h=>⟨_,_,_,rfl,?_⟩
  refine h.st 13 rfl rfl ?_;intro H4 h;refine⟨_,_,h.q 13,k _ ?_⟩;have h:=h.o [3,4,5,6,7,0,8,9,1,2,10,11,12] 14;have h:=q1c.2 ⟨cb,hb,h⟩;have h:=h.o [1,0,2,3,4,5,6,7,8,9,10] 11;have h:=q8t hole h;rw [qov hst] at h;exact q0i.2 ⟨p,h.o [1,2,3,4,5,6,7,0,8] 9⟩
theorem qow {st:Str}(hsok:qgt s.cfg st):∀q∈st.hs.rows,wf64 q.1:=fun q hq=>by
 have h1:=(hsok.rows q hq).1;have h2:=(hsok.hs.rows.inb q hq).1;have h3:=hsok.hs.next0;unfold wf64; omega
theorem qjv {st:Str}(hsok:qgt s.cfg st):st.hs.rows.length≤256:=by
 have hrl:=hsok.hs.rows.length;have hm2:=hsok.hs.most2;omega
set_option maxHeartbeats 2000000 in
theorem qwk {a:Int}(ok:q25 s)(h:SatL H (stA Q sb s::F))(k:∀H',SatL H' (stA Q sb s::F)→K (.tuple #[.agg ⟨encA (qyo s a).1⟩,.bool (qyo s a).2]) H') :
  CF 26 #[PA sb 0,I64 a] H K:=by
 refine z16 ?_;refine h.al fun b _ h=>?_
 have h:=h.o [1,0] 2;obtain⟨p,h⟩:=q0i.1 h;refine⟨_,h.r 0,?_⟩;have h:=h.o [1,2,0,3,4,5,6,7,8,9] 10;refine Ro.Of_spec ok.rows (agent:=a) h fun H2 h=>⟨_,_,_,_,rfl,?_⟩
 refine h.al fun b1 _ h=>?_
 refine h.st 0 rfl rfl ?_;intro H3 h;unfold qyo at k;refine⟨fun hc=>?_,fun hc=>?_⟩
 ·rw [if_neg (by simpa using hc)] at k;refine h.st 10 rfl rfl ?_;intro H4 h;refine⟨_,_,_,_,_,_,_,_,_,_,_,h.q 10,?_⟩;have h:=h.o [3,1,2,4,5,6,7,8,9] 11;exact k _ (q0i.2 ⟨p,h⟩)
 have he:0 < (rowE s.rows a).epoch:=by simpa using hc
 rw [if_pos he] at k;obtain⟨ha0,st,hst⟩:=ok.str he;rw [qb6 ha0 hst] at k;dsimp only at k;have hag':((a.toNat:Nat):Int)=a:=by omega
 have hsok:=ok.sts st (z9i hst);refine⟨_,h.r 3,?_⟩;have h:=h.o [4,5,0,1,2,3,6,7,8,9,10] 11;refine Ma.Of_spec (a:=a) h fun H4 h=>⟨_,_,_,_,_,rfl,?_⟩
 refine h.al fun b2 _ h=>?_
 refine h.st 0 rfl rfl ?_;intro H5 h;have h:=h.o [9,0,1,2,3,4,5,6,7,8,10,11] 12;obtain⟨stb,bl,hole,h⟩:=q7j h hst;have h:=h.o [1,0,2,3,4,5,6,7,8,9,10,11,12,13] 14;obtain⟨cb,hb,h⟩:=q1c.1 h;have hptr:=qah hole h 3 rfl;rw [hag'] at hptr;have hlen:=qjv hsok;refine⟨_,h.r 11,_,hptr,_,_,_,h.q 8,_,_,_,_,h.q 5,q01 ⟨_,h.r 0,q01 ⟨_,h.r 0,_,q86 (h.o [2] 3),q01 ⟨_,h.r 0,q01 ⟨_,h.rd 0 rfl 0,?_⟩⟩⟩⟩⟩;have h:=h.o [2,0,1,3,4,5,6,7,8,9,10,11,12,13,14,15] 16;refine q8r h hsok.hs.rows.rising (qow hsok) (by omega) fun wa wc H6 h=>⟨_,_,_,rfl,h.rd 2 rfl 0,h.r 2,h.q 6,h.q 9,?_⟩
 have h:=h.o [3,0,1,2,4,5,6,7,8,9,10,11,12,13,14,15,16] 17;have hl8:=hsok.ck.len;refine qa9 h (by omega) fun sa sc H7 h=>⟨_,_,_,rfl,h.r 4,h.q 7,h.q 10,?_⟩
 refine h.st 17 rfl rfl ?_;intro H8 h;refine⟨_,_,_,_,_,_,_,_,_,_,_,h.q 17,k _ ?_⟩;have h:=h.o [4,1,3,5,6,13,11,12,8,9,14,15,16] 18;have h:=q1c.2 ⟨cb,hb,h⟩;have h:=h.o [1,0,2,3,4,5,6,7,8,9,10] 11;have h:=q8t hole h;rw [qov hst] at h;exact q0i.2 ⟨p,h.o [1,2,3,4,5,6,7,0,8] 9⟩
end
end Go.Proofs.YtfmkddccnjidmaaGreatDoor
namespace Go.Nm
def flN (bs:List Bool):Nat→Int
 | 0=>0
 | n+1=>flN bs n+if bs.getD n false then (2:Int) ^ n else 0
def cbB (k:Ky)(c:Cl):List Int:=q2g [k.win]++q19 [k.ser,strB (q36 c)]
abbrev smB (x:Smp):List Int:=usB [x.asked,x.got,x.sent,x.came]
abbrev rwB (p:Int × Pv):List Int:=usB [p.1]++evB p.2
def agB1 (a:Int)(e:En)(fl:Fl)(st:Str):List Int:=
 (usB [a,e.epoch,e.boot,e.time,fl.t,flN [fl.out,fl.was,fl.held] 3]++q2g [st.last])++usB [flN [st.ck.held] 1,st.ck.streak,(st.ck.smps.length:Int)]
def agB (a:Int)(e:En)(fl:Fl)(st:Str):List Int:=
 ((agB1 a e fl st++st.ck.smps.flatMap smB)++usB [st.hs.next,(st.hs.rows.length:Int)])++st.hs.rows.flatMap rwB
theorem qyp (bs:List Bool):∀n,n≤3→0≤flN bs n∧flN bs n < (2:Int) ^ n
 | 0,_=>⟨z9g _,by show (0:Int) < 1; decide⟩
 | n+1,h=>by
  have ih:=qyp bs n (by omega);have hp:(2:Int) ^ (n+1)=2 ^ n+2 ^ n:=by rw [Int.pow_succ]; omega
  unfold flN;rw [hp]
  split <;> omega
end Go.Nm
namespace Go.Proofs.YtfmkddccnjidmaaGreatDoor
open Go.Nm
section
variable {F L:List Assn} {H:Heap} {K KP:Value→Heap→Prop} {Q Q':Assn} {sb:Nat} {s:Sta}
theorem qmg {b:Nat}{bs:List Bool}(hl:bs.length≤3)(h:SatL H F)(i:Nat)(hA:nth i F=cellsA b (bs.map .bool) 4):q1k Tryz.prog 124 #[.slice (some ⟨b,0,none⟩) bs.length bs.length] H (I64 (flN bs bs.length)):=by
 refine qrk ?_;refine⟨fun sum i H'=>H'=H∧∃j:Nat,i=j∧j≤bs.length∧sum=flN bs j,fun _ i _=>bs.length - i.toNat,⟨rfl,0,rfl,by omega,rfl⟩,?_⟩
 rintro sum t H1 ⟨rfl,j,rfl,hj,rfl⟩;refine⟨fun hc=>?_,fun hc=>?_⟩
 ·have hlt:j < bs.length:=by have:=z8s hc; omega
  have hrd:=(h.ce_rd i hA).at hlt;refine⟨by omega,_,_,hrd.1,_,hrd.2,?_⟩;have hb:=qyp bs j (by omega);have h8:(2:Int) ^ j≤4:=by
   rcases (by omega:j=0∨j=1∨j=2) with rfl|rfl|rfl <;> decide
  have hs:flN bs (j+1)=flN bs j+if bs[j] then (2:Int) ^ j else 0:=by
   show flN bs j+(if bs.getD j false then _ else _)=_
   rw [q8o _ hlt]
  intro Jn hJ;have nxt:Jn (flN bs (j+1)) H1:=by
   refine hJ _ _ ?_;rw [w64 (x:=(j:Int)+1)];exact⟨⟨rfl,j+1,by omega,hlt,rfl⟩,by dsimp only; omega⟩
  refine⟨fun hv=>⟨by omega,?_⟩,fun hv=>?_⟩
  ·rw [hs,if_pos hv] at nxt;have e:i64.wrap (1*2 ^ (min (Int.toNat (j:Int)) (i64.bits)))=(2:Int) ^ j:=by
    rcases (by omega:j=0∨j=1∨j=2) with rfl|rfl|rfl <;> decide
   rw [e,w64];exact nxt
  ·rw [hs,if_neg (by rw [hv]; simp),Int.add_zero] at nxt;exact nxt
 ·have hge:j=bs.length:=by have:=z8v hc; omega
  subst hge;exact⟨rfl,rfl⟩
theorem z7q {k:Ky}{c:Cl}(wc:WC c)(hs:k.ser.size≤5000):(cbB k c).length≤10100:=by
 have h1:=q3x [k.win];have h2:=q3f (s:=k.ser) (by omega);have h3:=qdw wc;have h4:=q3f (s:=strB (q36 c)) (by rw [q4q]; omega);rw [q4q] at h4;have e:q19 [k.ser,strB (q36 c)]=q2m k.ser++q2m (strB (q36 c)):=by simp [q19]
 unfold cbB;rw [z8t,e,z8t];simp only [z8y,z9j] at h1;omega
theorem qgd {key:Ky}{c:Cl}(wc:WC c)(hs:key.ser.size≤5000)(h:SatL H F)
  (k:∀a c' H',SatL H' (slA 5 1 a (cbB key c).length c' ((cbB key c).map U8)::F)→K (.slice a (cbB key c).length c') H'):CF 65 #[aggK key,aggC c] H K:=by
 have hcl:=z7q wc hs;have h3:=qdw wc;have hz:=q4q (q36 c);refine qgo ?_;refine h.al fun b _ h=>?_
 refine h.al fun b1 _ h=>⟨_,h.r 1,_,h.r 1,_,_,_,_,_,_,_,_,h.rda 0 rfl,?_⟩
 refine h.al fun b2 _ h=>⟨h.rda 1 rfl,h.r 2,?_⟩
 refine q6c h 0 rfl fun a1 c1 H2 h=>⟨_,_,_,rfl,h.rda 2 rfl,h.r 3,?_⟩
 refine qvq wc h fun a2 c2 H3 h=>⟨_,_,_,rfl,h.r 4,?_⟩
 have hsr:=qdk (c:=c2) (bs:=q36 c) (by
  rcases (q3i (F:=star _) h).2 with ⟨h2,_⟩|⟨b,pre,post,e',fr,h2,_⟩
  ·exact .inl h2
  ·exact .inr ⟨_,_,h2⟩) (h.sl_rd 0 rfl)
 refine⟨_,hsr,?_⟩;refine h.al fun b3 _ h=>?_
 have e:q19 [key.ser,strB (q36 c)]=q2m key.ser++q2m (strB (q36 c)):=by simp [q19]
 have l1:=q3f (s:=key.ser) (by omega);have l2:=q3f (s:=strB (q36 c)) (by omega);refine qb1 (ts:=[key.ser,strB (q36 c)]) h (fun H h=>h.ce_rd 0 rfl) (fun i=>?_) (by
   intro x hx;simp only [z96,zak,or_false] at hx
   rcases hx with rfl|rfl <;> omega) (by simp) fun a3 c3 H5 h=>⟨_,_,_,rfl,?_⟩
 ·have hle:(q19 ([key.ser,strB (q36 c)].take i)).length≤(q19 [key.ser,strB (q36 c)]).length:=by
   have hh:[key.ser,strB (q36 c)]=[key.ser,strB (q36 c)].take i++[key.ser,strB (q36 c)].drop i:=(zba _ _).symm;rw [show (q19 [key.ser,strB (q36 c)]).length=(q19 ([key.ser,strB (q36 c)].take i++[key.ser,strB (q36 c)].drop i)).length by rw [← hh]];unfold q19;rw [zbm,z8t]; omega
  rw [e,z8t] at hle;omega
 ·have hbl:(q2g [key.win]++q19 [key.ser,strB (q36 c)]).length≤10100:=hcl;rw [z8t] at hbl;refine appB h (i:=3) rfl rfl rfl (h.sl_rd 0 rfl) (by omega) fun a4 c4 H6 h=>⟨_,_,_,rfl,?_⟩
  exact k _ _ _ (h.o [3] 7)
theorem qyq (l:List Smp):(l.flatMap smB).length≤40*l.length:=by
 induction l with
 | nil=>simp
 | cons i l ih=>
  have:(smB i).length≤10*4:=q1a [i.asked,i.got,i.sent,i.came];rw [z9w,z8t,z8y];omega
theorem qyr (l:RowL Pv):(l.flatMap rwB).length≤1330*l.length:=by
 induction l with
 | nil=>simp
 | cons i l ih=>
  have h1:=q1a [i.1];have h2:=qoq i.2;rw [z9w,z8t,z8y,z8t];simp only [z8y,z9j] at h1;omega
set_option maxHeartbeats 4000000 in
theorem qst {a:Int}{e:En}{st:Str}(ok:q25 s)(ha:0≤a)(hst:s.sts[a.toNat]?=some (some st)){p:SAd}{A1 A2 A3 A4 A5:Assn}(h:SatL H (Q::cellsA sb (q3g s p) 115::A1::A2::Ma.markC p.mb p.mm s.ms::Ma.mapF p.mm s.ms.m::A3::A4::strmA Q p.tm s.sts::A5::F))
  (k:∀a' c' H',SatL H' (slA 5 1 a' (agB a e (flOf s.ms a) st).length c' ((agB a e (flOf s.ms a) st).map U8)::Q::cellsA sb (q3g s p) 115::A1::A2::Ma.markC p.mb p.mm s.ms::Ma.mapF p.mm s.ms.m::A3::A4::strmA Q p.tm s.sts::A5::F)→K (.slice a' (agB a e (flOf s.ms a) st).length c') H') :
  CF 62 #[PA sb 0,I64 a,aggE e] H K:=by
 have hag':((a.toNat:Nat):Int)=a:=by omega
 have hsok:=ok.sts st (z9i hst);have hl8:=hsok.ck.len;have hrl:=qjv hsok;refine qix ?_;refine h.al fun b _ h=>?_
 have h:=h.o [9,2,3,4,5,6,7,8,10,0,1] 11;obtain⟨stb,bl,hole,h⟩:=q7j h hst;have h:=h.o [1,0,2,3,4,5,6,7,8,9,10,11,12] 13;obtain⟨cb,hb,h⟩:=q1c.1 h;have hptr:=qah hole h 3 rfl;rw [hag'] at hptr;refine⟨_,h.r 5,_,hptr,_,h.r 5,?_⟩;have h:=h.o [8,9,0,1,2,3,4,5,6,7,10,11,12,13,14] 15;refine Ma.Of_spec (a:=a) h fun H1 h=>⟨_,_,_,_,_,rfl,?_⟩
 refine h.al fun b1 _ h=>?_
 refine h.st 0 rfl rfl ?_;intro H2 h;refine⟨_,h.r 14,_,h.r 14,_,h.r 14,_,h.r 0,_,h.r 0,_,h.r 0,_,h.r 0,?_⟩;refine h.al fun b2 _ h=>⟨h.r 1,h.r 15,h.r 15,h.r 15,_,qmg (bs:=[(flOf s.ms a).out,(flOf s.ms a).was,(flOf s.ms a).held]) (by simp) h 0 rfl,?_⟩
 refine h.al fun b3 _ h=>?_
 refine qae (vs:=[a,e.epoch,e.boot,e.time,(flOf s.ms a).t,flN [(flOf s.ms a).out,(flOf s.ms a).was,(flOf s.ms a).held] 3]) h (fun H h=>h.ce_rd 0 rfl) (by simp) fun a1 c1 H3 h=>⟨_,_,_,rfl,q01 ⟨_,h.r 6,?_⟩⟩
 have q1:=q1a [a,e.epoch,e.boot,e.time,(flOf s.ms a).t,flN [(flOf s.ms a).out,(flOf s.ms a).was,(flOf s.ms a).held] 3];have q2:=q3x [st.last];have q3:=q1a [flN [st.ck.held] 1,st.ck.streak,(st.ck.smps.length:Int)];have q4:=q1a [st.hs.next,(st.hs.rows.length:Int)];simp only [z8y,z9j] at q1 q2 q3 q4;unfold agB agB1 at k;generalize usB [a,e.epoch,e.boot,e.time,(flOf s.ms a).t,flN [(flOf s.ms a).out,(flOf s.ms a).was,(flOf s.ms a).held] 3]=X1 at *;refine h.al fun b4 _ h=>?_
 refine q6c h 0 rfl fun a2 c2 H4 h=>⟨_,_,_,rfl,?_⟩
 generalize q2g [st.last]=X2 at *;refine appB h (i:=2) rfl rfl rfl (h.sl_rd 0 rfl) (by omega) fun a3 c3 H5 h=>⟨_,_,_,rfl,?_⟩
 have h:=h.o [9,2,6,7,8,10,11,12,13,14,15,16,17,18,20] 21;refine q01 ⟨_,h.rd 4 rfl 0,?_⟩;refine qa9 h (by omega) fun sa sc H6 h=>⟨_,_,_,rfl,q01 ⟨_,h.rd 5 rfl 0,_,qa8 (h.o [1] 2),q01 ⟨_,h.rd 5 rfl 0,?_⟩⟩⟩
 refine h.al fun b5 _ h=>⟨h.rd 6 rfl 0,_,qmg (bs:=[st.ck.held]) (by simp) h 0 rfl,_,qvc (h.o [2] 3),?_⟩
 refine h.al fun b6 _ h=>?_
 refine qae (vs:=[flN [st.ck.held] 1,st.ck.streak,(st.ck.smps.length:Int)]) h (fun H h=>h.ce_rd 0 rfl) (by simp) fun a4 c4 H7 h=>⟨_,_,_,rfl,?_⟩
 generalize usB [flN [st.ck.held] 1,st.ck.streak,(st.ck.smps.length:Int)]=X3 at *;refine appB h (i:=5) rfl rfl rfl (h.sl_rd 0 rfl) (by rw [z8t]; omega) fun a5 c5 H8 h=>⟨_,_,_,rfl,?_⟩
 have hO:((X1++X2)++X3).length≤100:=by simp only [z8t]; omega
 generalize (X1++X2)++X3=O at *;refine⟨fun a' n' c' i H'=>∃j:Nat,i=j∧j≤st.ck.smps.length∧n'=(O++(st.ck.smps.take j).flatMap smB).length∧
  SatL H' (slA 5 1 a' (O++(st.ck.smps.take j).flatMap smB).length c' ((O++(st.ck.smps.take j).flatMap smB).map U8)::slA 43 4 sa st.ck.smps.length sc (flat q4t st.ck.smps)::ckA cb st.ck::Ma.markC p.mb p.mm s.ms::Ma.mapF p.mm s.ms.m::cellsA stb [PA cb 0,PA hb 0,I64 st.last] 149::hldA Q hb st.hs::mapA I64 ptV p.tm (tabP 0 bl)::qgs Q bl s.sts a.toNat::
   cellsA sb (q3g s p) 115::A1::A2::A3::A4::A5::Q::F),
  fun _ _ _ i _=>st.ck.smps.length - i.toNat,⟨0,rfl,by omega,by simp,?_⟩,?_⟩
 ·rw [show O++(st.ck.smps.take 0).flatMap smB=O by simp];exact h.o [5,3,4,6,7,8,9,10,11,12,13,14,15,16,17,18] 19
 rintro a6 n6 c6 i H9 ⟨j,rfl,hj,rfl,h⟩;have ljn:=qyq (st.ck.smps.take j);have ljt:(st.ck.smps.take j).length≤st.ck.smps.length:=by rw [z9d]; omega
 refine⟨fun hlt=>?_,fun hlt=>?_⟩
 ·have hlt:j < st.ck.smps.length:=by have:=z8s hlt; omega
  have hr:=h.sl_rd 1 rfl;refine⟨by omega,_,_,hr.some q2b (by omega) hlt,_,_,_,_,hr.els q2b hlt,?_⟩;refine h.al fun b8 _ h=>?_
  refine h.st 0 rfl rfl ?_;intro H10 h;refine⟨_,h.r 0,_,h.r 0,_,h.r 0,_,h.r 0,?_⟩;refine h.al fun b9 _ h=>?_
  refine qae (vs:=[st.ck.smps[j].asked,st.ck.smps[j].got,st.ck.smps[j].sent,st.ck.smps[j].came]) h (fun H h=>h.ce_rd 0 rfl) (by simp) fun a7 c7 H11 h=>⟨_,_,_,rfl,?_⟩
  have q5:=q1a [st.ck.smps[j].asked,st.ck.smps[j].got,st.ck.smps[j].sent,st.ck.smps[j].came];simp only [z8y,z9j] at q5;refine appB h (i:=3) rfl rfl rfl (h.sl_rd 0 rfl) (by rw [z8t]; omega) fun a8 c8 H12 h=>⟨_,_,_,rfl,?_⟩
  rw [w64 (x:=(j:Int)+1)];have e5:O++(st.ck.smps.take (j+1)).flatMap smB=(O++(st.ck.smps.take j).flatMap smB)++usB [st.ck.smps[j].asked,st.ck.smps[j].got,st.ck.smps[j].sent,st.ck.smps[j].came]:=by
   rw [q11 (f:=smB) hlt,z93]
  rw [← e5] at h ⊢;exact⟨⟨j+1,by omega,hlt,rfl,h.o [3,4,5,6,7,8,9,10,11,12,13,14,15,16,17,18] 19⟩,by dsimp only; omega⟩
 have hge:st.ck.smps.length≤j:=by have:=z8v hlt; omega
 rw [z9f hge] at h ljn ⊢;have hO2:(O++st.ck.smps.flatMap smB).length≤500:=by rw [z8t]; omega
 generalize O++st.ck.smps.flatMap smB=O2 at *;refine q01 ⟨_,h.r 5,q01 ⟨_,h.r 5,?_⟩⟩;have h:=h.o [6,0,2,3,4,5,7,8,9,10,11,12,13,14,15] 16;refine q8r h hsok.hs.rows.rising (qow hsok) (by omega) fun wa wc H10 h=>⟨_,_,_,rfl,h.r 6,?_⟩
 have h:=h.o [1,0,2,3,4,5,6,7,8,9,10,11,12,13,14,15] 16;refine qw1 h fun hb2 H11 h=>⟨_,rfl,?_⟩
 refine qw0 h hsok.hs.rows.rising (qow hsok) (by omega) fun ea ec evs H12 hevs hlab h=>⟨_,_,_,rfl,?_⟩
 have hel:evs.length=st.hs.rows.length:=by have:=congrArg List.length hevs; simpa using this
 refine q01 ⟨_,h.r 8,_,q86 (h.o [2] 3),?_⟩;refine h.al fun b10 _ h=>?_
 refine qae (vs:=[st.hs.next,(st.hs.rows.length:Int)]) h (fun H h=>h.ce_rd 0 rfl) (by simp) fun a7 c7 H13 h=>⟨_,_,_,rfl,?_⟩
 generalize usB [st.hs.next,(st.hs.rows.length:Int)]=X4 at *;refine appB h (i:=6) rfl rfl rfl (h.sl_rd 0 rfl) (by omega) fun a8 c8 H14 h=>⟨_,_,_,rfl,?_⟩
 have hO3:(O2++X4).length≤600:=by rw [z8t]; omega
 generalize O2++X4=O3 at *;have hkl:(q00 st.hs.rows).length=st.hs.rows.length:=by simp [q00]
 refine⟨fun a' n' c' i H'=>∃j:Nat,i=j∧j≤st.hs.rows.length∧n'=(O3++(st.hs.rows.take j).flatMap rwB).length∧
  SatL H' (slA 5 1 a' (O3++(st.hs.rows.take j).flatMap rwB).length c' ((O3++(st.hs.rows.take j).flatMap rwB).map U8)::slA 95 4 ea evs.length ec (flat encV evs)::slA 2 1 wa st.hs.rows.length wc ((q00 st.hs.rows).map I64)::hldA Q hb st.hs::ckA cb st.ck::Ma.markC p.mb p.mm s.ms::Ma.mapF p.mm s.ms.m::cellsA stb [PA cb 0,PA hb 0,I64 st.last] 149::mapA I64 ptV p.tm (tabP 0 bl)::qgs Q bl s.sts a.toNat::
   cellsA sb (q3g s p) 115::A1::A2::A3::A4::A5::Q::F),
  fun _ _ _ i _=>st.hs.rows.length - i.toNat,⟨0,rfl,by omega,by simp,?_⟩,?_⟩
 ·rw [show O3++(st.hs.rows.take 0).flatMap rwB=O3 by simp];exact h.o [6,2,5,4,7,8,9,10,11,12,13,14,15,16,17,18,19] 20
 rintro a9 n9 c9 i H15 ⟨j,rfl,hj,rfl,h⟩;have ljn:=qyr (st.hs.rows.take j);have ljt:(st.hs.rows.take j).length≤st.hs.rows.length:=by rw [z9d]; omega
 refine⟨fun hlt=>?_,fun hlt=>?_⟩
 ·have hlt:j < st.hs.rows.length:=by have:=z8s hlt; omega
  have hltk:j < (q00 st.hs.rows).length:=by omega
  have hlte:j < evs.length:=by omega
  have hrd:=(h.sl_rd 2 rfl).at hltk;refine⟨by omega,_,_,hrd.1,_,hrd.2,?_⟩;refine h.al fun b12 _ h=>?_
  refine q5l h 0 rfl fun a10 c10 H16 h=>⟨_,_,_,rfl,?_⟩
  have q5:=q1a [(q00 st.hs.rows)[j]];simp only [z8y,z9j] at q5;refine appB h (i:=2) rfl rfl rfl (h.sl_rd 0 rfl) (by rw [z8t]; omega) fun a11 c11 H17 h=>⟨_,_,_,rfl,?_⟩
  have hrv:=h.sl_rd 3 rfl;refine⟨by omega,_,_,hrv.some q0t (by omega) hlte,_,_,_,_,_,_,hrv.els q0t hlte,?_⟩;refine qjg (e:=evs[j]) h (fun H h=>(hlab _ (z92 hlte)).at h 18 rfl) fun a12 c12 H18 h=>⟨_,_,_,rfl,?_⟩
  have q6:=qoq evs[j].p;refine appB h (i:=3) rfl rfl rfl (h.sl_rd 0 rfl) (by simp only [z8t]; omega) fun a13 c13 H19 h=>⟨_,_,_,rfl,?_⟩
  rw [w64 (x:=(j:Int)+1)];have ek:(q00 st.hs.rows)[j]=st.hs.rows[j].1:=by simp [q00]
  have ep:evs[j].p=st.hs.rows[j].2:=by
   have h1:(evs.map Ev.p)[j]'(by simpa using hlte)=(st.hs.rows.map (·.2))[j]'(by simpa using hlt):=by simp only [hevs]
   simpa using h1
  have e5:O3++(st.hs.rows.take (j+1)).flatMap rwB=((O3++(st.hs.rows.take j).flatMap rwB)++usB [(q00 st.hs.rows)[j]])++evB evs[j].p:=by
   rw [q11 (f:=rwB) hlt,ek,ep,z93,z93]
  rw [← e5] at h ⊢;exact⟨⟨j+1,by omega,hlt,rfl,h.o [3,4,5,6,7,8,9,10,11,12,13,14,15,16,17,18,19] 20⟩,by dsimp only; omega⟩
 ·have hge:st.hs.rows.length≤j:=by have:=z8v hlt; omega
  rw [z9f hge] at h ⊢;refine k _ _ _ ?_;have h:=h.o [7,4,3,8,9,10,11,12,5,6,13,14,15,0,16] 17;have h:=q1c.2 ⟨cb,hb,h⟩;have h:=h.o [1,0,2,3,4,5,6,7,8,9,10,11,12] 13;have h:=q8t hole h;rw [qov hst] at h;exact h.o [9,10,1,2,3,4,5,6,7,0,8] 11
end
end Go.Proofs.YtfmkddccnjidmaaGreatDoor
namespace Go.Nm
def agOf (s:Sta)(p:Int × En):List Int:=match q3a s p.1 with
 | some st=>agB p.1 p.2 (flOf s.ms p.1) st
 | none=>[]
def nStr (s:Sta):Nat:=(s.sts.filter Option.isSome).length
abbrev ceB (o:Ot):List Int:=cbB o.1 o.2
def stB1 (s:Sta):List Int:=(usB [s.now,s.boots,s.sunk,s.ms.now]++q2g [s.ms.value])++usB [(nStr s:Int)]
def stB2 (s:Sta):List Int:=(stB1 s++(tab 0 s.rows).flatMap (agOf s))++usB [(s.cm.length:Int)]
def stB3 (s:Sta):List Int:=(stB2 s++(q0j s.cm).flatMap ceB)++usB [(s.kept.length:Int)]
def stB (s:Sta):List Int:=stB3 s++s.kept.flatMap ceB
structure qwl (s:Sta):Prop where
 cm:∀p∈s.cm,p.1.ser.size≤5000
 kept:∀o∈s.kept,o.1.ser.size≤5000
theorem qox {α:Type}:∀{l:List (Option α)} {i:Nat},(tabP i l).length=(l.filter Option.isSome).length
 | [],i=>rfl
 | none::r,i=>qox (l:=r) (i:=i+1)
 | some b::r,i=>by
  show (_::tabP (i+1) r).length=_;rw [z8y,qox (l:=r)]; rfl
theorem qe9 {α β:Type}:∀{l:List (Option α)} {m:List (Option β)},l.map Option.isSome=m.map Option.isSome→(l.filter Option.isSome).length=(m.filter Option.isSome).length
 | [],[],_=>rfl
 | x::r,y::m,h=>by
  simp only [z9n,List.cons.injEq] at h;have ih:=qe9 h.2;rw [z9x,z9x,h.1]
  split
  ·rw [z8y,z8y,ih]
  ·exact ih
 | [],y::m,h=>by simp at h
 | x::r,[],h=>by simp at h
theorem qjw {m:CM}{o:Ot}(h:o∈q0j m):∃p∈m,p.1=o.1:=by
 unfold q0j at h;obtain⟨k,hk,rfl⟩:=z90.1 h;have:=(q15 _).mem_iff.1 hk;obtain⟨p,hp,e⟩:=z90.1 this;exact⟨p,hp,e⟩
end Go.Nm
namespace Go.Proofs.YtfmkddccnjidmaaGreatDoor
open Go.Nm
section
variable {F L:List Assn} {H:Heap} {K KP:Value→Heap→Prop} {Q Q':Assn} {sb:Nat} {s:Sta}
theorem agB_len {a:Int}{e:En}{fl:Fl}{st:Str}(hsok:qgt s.cfg st):(agB a e fl st).length≤345000:=by
 have q1:=q1a [a,e.epoch,e.boot,e.time,fl.t,flN [fl.out,fl.was,fl.held] 3];have q2:=q3x [st.last];have q3:=q1a [flN [st.ck.held] 1,st.ck.streak,(st.ck.smps.length:Int)];have q4:=q1a [st.hs.next,(st.hs.rows.length:Int)];have q5:=qyq st.ck.smps;have q6:=qyr st.hs.rows;have h1:=hsok.ck.len;have h2:=qjv hsok;unfold agB agB1;simp only [z8t,z8y,z9j] at *;omega
theorem qhc (ok:q25 s)(p:Int × En):(agOf s p).length≤345000:=by
 unfold agOf
 cases h:q3a s p.1 with
 | none=>simp
 | some st=>exact agB_len (ok.sts st (z9i (qju h).2))
theorem q8v {α:Type}{f:α→List Int}{B:Nat}:∀{l:List α},(∀x∈l,(f x).length≤B)→(l.flatMap f).length≤B*l.length
 | [],_=>by simp
 | x::r,h=>by
  have h1:=h x (z98 ..);have h2:=q8v (l:=r) fun y hy=>h y (z99 _ hy)
  rw [z9w,z8t,z8y,Nat.mul_succ]; omega
theorem qoy {o:Ot}(wc:WC o.2)(hs:o.1.ser.size≤5000):(ceB o).length≤10100:=z7q wc hs
theorem qys:(stB1 s).length≤60:=by
 have q1:=q1a [s.now,s.boots,s.sunk,s.ms.now];have q2:=q3x [s.ms.value];have q3:=q1a [(nStr s:Int)];unfold stB1;simp only [z8t,z8y,z9j] at *;omega
theorem strm_len {tm:Nat}{sts:List (Option Str)}(h:SatL H (strmA Q tm sts::F)):q0b Tryz.prog (Builtin.len_ #[113] 3 #[(.map (some tm))]) H (.int .i64 ((sts.filter Option.isSome).length:Nat)):=by
 obtain⟨bl,hm,h⟩:=q5m.1 h;have:=h.mp_len (ty:=3) z7a 0 rfl;rw [qox,qe9 hm] at this;exact this
set_option maxHeartbeats 8000000 in
theorem qjx (ok:q25 s)(ser:qwl s)(hkl:s.kept.length≤50000)(h:SatL H (Q::stA Q sb s::F))
  (k:∀a c H',SatL H' (slA 5 1 a (stB s).length c ((stB s).map U8)::Q::stA Q sb s::F)→K (.slice a (stB s).length c) H') :
  CF 15 #[PA sb 0] H K:=by
 refine z1b ?_;refine h.al fun b _ h=>?_
 have h:=h.o [2,0,1] 3;obtain⟨p,h⟩:=q0i.1 h;intro Jn hJ;have hle:=qyh ok.rows;have hagl:((tab 0 s.rows).flatMap (agOf s)).length≤345000*64:=by
  have:=q8v (f:=agOf s) (l:=tab 0 s.rows) (B:=345000) fun x _=>qhc ok x
  have:345000*(tab 0 s.rows).length≤345000*64:=zb1 _ hle;omega
 have hol:=q80 (m:=s.cm);have hcl:=ok.sh.len;have hcm:=ok.sh.m2;have hO:∀o∈q0j s.cm,(ceB o).length≤10100:=fun o ho=>by
  obtain⟨q,hq,e⟩:=qjw ho;exact qoy (qhb ok.sh o ho) (by rw [← e]; exact ser.cm q hq)
 have hKp:∀o∈s.kept,(ceB o).length≤10100:=fun o ho=>qoy (ok.kept o ho) (ser.kept o ho)
 have main:∀ob a c H',SatL H' (cellsA ob [.slice a (usB [s.now,s.boots,s.sunk,s.ms.now]).length c] 24::slA 5 1 a (usB [s.now,s.boots,s.sunk,s.ms.now]).length c ((usB [s.now,s.boots,s.sunk,s.ms.now]).map U8)::
   cellsA sb (q3g s p) 115::Ro.rollC p.rb p.rm s.cfg.agents::Ro.mapE p.rm s.rows::Ma.markC p.mb p.mm s.ms::Ma.mapF p.mm s.ms.m::shC p.hb p.hm s.cfg.cells::mapC p.hm s.cm::strmA Q p.tm s.sts::slA 64 74 p.ka s.kept.length p.kc (flat encO s.kept)::cellsA b [PA sb 0] 27::Q::F)→Jn ob 0 H':=by
  intro ob a0 c0 H1 h;refine hJ _ _ _ ?_;have q1:=q1a [s.now,s.boots,s.sunk,s.ms.now];have q2:=q3x [s.ms.value];have q3:=q1a [(nStr s:Int)];have q4:=q1a [(s.cm.length:Int)];have q5:=q1a [(s.kept.length:Int)];simp only [z8y,z9j] at q1 q2 q3 q4 q5;have hS1:=qys (s:=s);have eS1:stB1 s=(usB [s.now,s.boots,s.sunk,s.ms.now]++q2g [s.ms.value])++usB [(nStr s:Int)]:=rfl;have eS2:stB2 s=(stB1 s++(tab 0 s.rows).flatMap (agOf s))++usB [(s.cm.length:Int)]:=rfl;have eS3:stB3 s=(stB2 s++(q0j s.cm).flatMap ceB)++usB [(s.kept.length:Int)]:=rfl;have hS2:(stB2 s).length≤22100000:=by rw [eS2,z8t,z8t]; omega
  have hcl2:((q0j s.cm).flatMap ceB).length≤10100*1024:=by
   have h1:=q8v (f:=ceB) (l:=q0j s.cm) (B:=10100) hO;have:10100*(q0j s.cm).length≤10100*1024:=zb1 _ (by omega);omega
  have hS3:(stB3 s).length≤40000000:=by rw [eS3,z8t,z8t]; omega
  generalize usB [s.now,s.boots,s.sunk,s.ms.now]=X0 at *;refine⟨_,_,_,h.r 0,_,h.r 11,q01 ⟨_,h.r 2,_,Ma.Value_spec h 5 rfl,?_⟩⟩;refine h.al fun b1 _ h=>⟨h.r 1,?_⟩
  refine q6c h 0 rfl fun a1 c1 H2 h=>⟨_,_,_,rfl,h.r 2,?_⟩
  refine appB h (i:=3) rfl rfl rfl (h.sl_rd 0 rfl) (by omega) fun a2 c2 H3 h=>⟨_,_,_,rfl,?_⟩
  generalize q2g [s.ms.value]=X1 at *;refine h.st 2 rfl rfl ?_;intro H4 h;have h:=h.o [2,3,4,5,6,7,8,9,10,11,12,13,14] 15;refine⟨_,_,_,h.r 0,_,h.r 11,q01 ⟨_,h.r 2,_,strm_len (h.o [9] 10),?_⟩⟩;refine h.al fun b2 _ h=>⟨h.r 1,?_⟩
  refine q5l h 0 rfl fun a3 c3 H5 h=>⟨_,_,_,rfl,h.r 2,?_⟩
  refine appB h (i:=3) rfl rfl rfl (h.sl_rd 0 rfl) (by rw [z8t]; unfold nStr at q3; omega) fun a4 c4 H6 h=>⟨_,_,_,rfl,?_⟩
  rw [show (X0++X1)++usB [((s.sts.filter Option.isSome).length:Int)]=stB1 s from eS1.symm] at h ⊢;refine h.st 2 rfl rfl ?_;intro H7 h;have h:=h.o [2,3,4,5,6,7,8,9,10,11,12,13,14] 15;refine⟨_,h.r 11,q01 ⟨_,h.r 2,?_⟩⟩;refine Ro.All_spec h fun c0' H8 h=>⟨_,_,rfl,rfl,fun R hR1 hR2 hy=>?_⟩
  have h:=h.rng R;refine Ro.All1_spec (rb:=p.rb) (mb:=p.rm) (most:=s.cfg.agents) (c0:=c0') ok.rows (fun j=>exS fun q:Option Addr × Nat=>star [cellsA ob [.slice q.1 (stB1 s++((tab 0 s.rows).take j).flatMap (agOf s)).length q.2] 24,slA 5 1 q.1 (stB1 s++((tab 0 s.rows).take j).flatMap (agOf s)).length q.2 ((stB1 s++((tab 0 s.rows).take j).flatMap (agOf s)).map U8),
    cellsA sb (q3g s p) 115,Ma.markC p.mb p.mm s.ms,Ma.mapF p.mm s.ms.m,strmA Q p.tm s.sts,cellsA b [PA sb 0] 27,Q,pt (H8.size+1) (.loop R)]) (pur False)
   (F:=pt H8.size (.deferred (some []))::shC p.hb p.hm s.cfg.cells::mapC p.hm s.cm::slA 64 74 p.ka s.kept.length p.kc (flat encO s.kept)::F) ?_ ?_ ?_ ?_
  ·refine q0n.2 ⟨(a4,c4),SatL.shut [_,_,_,_,_,_,_,_,_] ?_⟩;rw [show stB1 s++((tab 0 s.rows).take 0).flatMap (agOf s)=stB1 s by simp];exact h.o [3,4,5,8,9,12,14,15,0,2,6,7,1,10,11,13] 16
  ·intro j hj G H9 K1 h kt _;obtain⟨⟨a5,c5⟩,h⟩:=q0n.1 h;have h:=SatL.open (A:=[_,_,_,_,_,_,_,_,_]) h;dsimp only at h;refine hy _ _ _ ?_;refine⟨_,_,_,_,rfl,h.getO 8 rfl,?_⟩;refine h.al fun b3 _ h=>?_
   refine h.st 0 rfl rfl ?_;intro H10 h;refine⟨h.getO 9 rfl,h.stl 9 rfl fun H11 h=>⟨_,_,_,h.r 1,_,h.r 7,_,_,_,h.q 0,?_⟩⟩
   have hmem:=z92 hj;have htk:=q7i hmem;have hepo:0 < (rowE s.rows (tab 0 s.rows)[j].1).epoch:=by
    have hlk:=qor (i:=0) (l:=s.rows) (k:=(tab 0 s.rows)[j].1.toNat);rw [z9e,show (((tab 0 s.rows)[j].1.toNat:Nat):Int)=(tab 0 s.rows)[j].1 by omega] at hlk;have h1:q08 (tab 0 s.rows)[j].1 (tab 0 s.rows)=some (tab 0 s.rows)[j].2:=q28 qe0 hmem;have h2:=qe1 ok.rows (agent:=(tab 0 s.rows)[j].1);rw [h1] at h2;rw [← h2];exact htk.2.2
   obtain⟨ha0,st,hst⟩:=ok.str hepo;have hag:agOf s (tab 0 s.rows)[j]=agB (tab 0 s.rows)[j].1 (tab 0 s.rows)[j].2 (flOf s.ms (tab 0 s.rows)[j].1) st:=by
    unfold agOf; rw [qb6 ha0 hst]
   have hagn:=qhc ok (tab 0 s.rows)[j];have ljn:=q8v (f:=agOf s) (l:=(tab 0 s.rows).take j) (B:=345000) fun x _=>qhc ok x
   have ljt:((tab 0 s.rows).take j).length≤(tab 0 s.rows).length:=by rw [z9d]; omega
   have ljm:345000*((tab 0 s.rows).take j).length≤345000*64:=zb1 _ (by omega);have h:=emp1 (emp1 (emp1 (emp1 (emp1 h))));have h:=h.o [13,8,0,1,9,10,2,3,11,4,5,6,7,12,14] 15;refine qst (e:=(tab 0 s.rows)[j].2) ok ha0 hst h fun a6 c6 H12 h=>⟨_,_,_,rfl,h.r 12,?_⟩
   rw [← hag] at h ⊢;refine appB h (i:=13) rfl rfl rfl (h.sl_rd 0 rfl) (by rw [z8t]; omega) fun a7 c7 H13 h=>⟨_,_,_,rfl,?_⟩
   refine h.st 12 rfl rfl ?_;intro H14 h;refine⟨h.getO 15 rfl,kt _ ?_⟩;have h:=h.setO 15 rfl (.loop R);have e5:stB1 s++((tab 0 s.rows).take (j+1)).flatMap (agOf s)=(stB1 s++((tab 0 s.rows).take j).flatMap (agOf s))++agOf s (tab 0 s.rows)[j]:=by
    rw [q11 (f:=agOf s) hj,z93]
   refine q0n.2 ⟨(a7,c7),SatL.shut [_,_,_,_,_,_,_,_,_] ?_⟩;dsimp only;rw [e5];exact h.o [12,13,2,5,6,9,14,1,15] 16
  ·intro H9 h;obtain⟨⟨a5,c5⟩,h⟩:=q0n.1 h;have h:=SatL.open (A:=[_,_,_,_,_,_,_,_,_]) h;dsimp only at h;rw [zab] at h;refine⟨.ready,none,by decide,by rw [q66 hR1 hR2]; exact h.getO 8 rfl,h.stl 8 rfl fun H10 h=>⟨rfl,?_⟩⟩
   refine⟨_,_,_,h.r 0,_,h.r 6,q01 ⟨_,h.r 2,_,z1r h 13 14 rfl rfl,?_⟩⟩;refine h.al fun b4 _ h=>⟨h.r 1,?_⟩
   refine q5l h 0 rfl fun a6 c6 H11 h=>⟨_,_,_,rfl,h.r 2,?_⟩
   refine appB h (i:=3) rfl rfl rfl (h.sl_rd 0 rfl) (by rw [z8t]; omega) fun a7 c7 H12 h=>⟨_,_,_,rfl,?_⟩
   rw [← eS2] at h ⊢;refine h.st 2 rfl rfl ?_;intro H13 h;have h:=h.o [2,3,4,5,6,7,8,9,12,13,14,15,16,17] 18;refine⟨_,h.r 6,q01 ⟨_,h.r 2,?_⟩⟩;refine qf9 h fun c1' H14 h=>⟨_,_,rfl,rfl,fun R1 hR3 hR4 hy2=>?_⟩
   have h:=h.rng R1;refine qcg (sb:=p.hb) (mb:=p.hm) (most:=s.cfg.cells) (m:=s.cm) (c0:=c1') (by omega)
    (fun j=>exS fun q:Option Addr × Nat=>star [cellsA ob [.slice q.1 (stB2 s++((q0j s.cm).take j).flatMap ceB).length q.2] 24,slA 5 1 q.1 (stB2 s++((q0j s.cm).take j).flatMap ceB).length q.2 ((stB2 s++((q0j s.cm).take j).flatMap ceB).map U8),shC p.hb p.hm s.cfg.cells,mapC p.hm s.cm,pt (H14.size+1) (.loop R1)])
    (fun _=>pur False) (star [cellsA ob [.slice a7 (stB2 s).length c7] 24,slA 5 1 a7 (stB2 s).length c7 ((stB2 s).map U8),pt (H14.size+1) (.loop R1)])
    (F:=pt H14.size (.deferred (some []))::cellsA sb (q3g s p) 115::Ma.markC p.mb p.mm s.ms::Ma.mapF p.mm s.ms.m::strmA Q p.tm s.sts::cellsA b [PA sb 0] 27::Q::Ro.rollC p.rb p.rm s.cfg.agents::Ro.mapE p.rm s.rows::pt H8.size (.deferred (some []))::slA 64 74 p.ka s.kept.length p.kc (flat encO s.kept)::F) ?_ ?_ ?_ ?_ ?_
   ·have h:=h.o [3,4,0,2,14,15,1,5,6,7,8,9,10,11,12,13,16] 17;have h:=SatL.shut [_,_,_] h;exact h.o [1,2,3,0] 4
   ·intro G H15 h;have h:=h.o [2,0,1] 3;have h:=SatL.open (A:=[_,_,_]) h;refine q0n.2 ⟨(a7,c7),SatL.shut [_,_,_,_,_] ?_⟩;rw [show stB2 s++((q0j s.cm).take 0).flatMap ceB=stB2 s by simp];exact h.o [0,1,3,4,2] 5
   ·intro j hj G H15 K1 h kt _;obtain⟨⟨a8,c8⟩,h⟩:=q0n.1 h;have h:=SatL.open (A:=[_,_,_,_,_]) h;dsimp only at h;refine hy2 _ _ _ ?_;have hmem:=z92 hj;have hwc:=qhb ok.sh _ hmem;have hser:(q0j s.cm)[j].1.ser.size≤5000:=by
     obtain⟨q,hq,e⟩:=qjw hmem;rw [← e]; exact ser.cm q hq
    have hcn:(cbB (q0j s.cm)[j].1 (q0j s.cm)[j].2).length≤10100:=hO _ hmem;have ljn:=q8v (f:=ceB) (l:=(q0j s.cm).take j) (B:=10100) fun x hx=>hO x (zb5 hx)
    have ljt:((q0j s.cm).take j).length≤(q0j s.cm).length:=by rw [z9d]; omega
    have ljm:10100*((q0j s.cm).take j).length≤10100*1024:=zb1 _ (by omega);refine⟨_,_,_,_,_,_,_,_,_,_,rfl,h.getO 4 rfl,?_⟩;refine h.al fun b5 _ h=>?_
    refine h.st 0 rfl rfl ?_;intro H16 h;refine h.al fun b6 _ h=>?_
    refine h.sta 0 rfl rfl fun H17 h=>?_
    refine⟨h.getO 6 rfl,h.stl 6 rfl fun H18 h=>⟨_,_,_,h.r 2,_,_,h.q 1,_,_,_,_,_,_,_,_,h.rda 0 rfl,?_⟩⟩
    refine qgd (key:=(q0j s.cm)[j].1) (c:=(q0j s.cm)[j].2) hwc hser h fun a9 c9 H19 h=>⟨_,_,_,rfl,h.r 3,?_⟩
    refine appB h (i:=4) rfl rfl rfl (h.sl_rd 0 rfl) (by rw [z8t]; omega) fun a10 c10 H20 h=>⟨_,_,_,rfl,?_⟩
    refine h.st 3 rfl rfl ?_;intro H21 h;refine⟨h.getO 7 rfl,kt _ ?_⟩;have h:=h.setO 7 rfl (.loop R1);have e5:stB2 s++((q0j s.cm).take (j+1)).flatMap ceB=(stB2 s++((q0j s.cm).take j).flatMap ceB)++ceB (q0j s.cm)[j]:=by
     rw [q11 (f:=ceB) hj,z93]
    refine q0n.2 ⟨(a10,c10),SatL.shut [_,_,_,_,_] ?_⟩;dsimp only;rw [e5];exact h.o [3,4,5,6,7] 8
   ·intro H15 h;obtain⟨⟨a8,c8⟩,h⟩:=q0n.1 h;have h:=SatL.open (A:=[_,_,_,_,_]) h;dsimp only at h;rw [zab] at h;refine⟨.ready,none,by decide,by rw [q66 hR3 hR4]; exact h.getO 4 rfl,h.stl 4 rfl fun H16 h=>⟨rfl,?_⟩⟩
    refine⟨_,_,_,h.r 0,_,h.r 10,q01 ⟨_,_,_,h.r 6,?_⟩⟩;refine h.al fun b7 _ h=>⟨h.r 1,?_⟩
    refine q5l h 0 rfl fun a9 c9 H17 h=>⟨_,_,_,rfl,h.r 2,?_⟩
    refine appB h (i:=3) rfl rfl rfl (h.sl_rd 0 rfl) (by rw [z8t]; omega) fun a10 c10 H18 h=>⟨_,_,_,rfl,?_⟩
    rw [← eS3] at h ⊢;refine h.st 2 rfl rfl ?_;intro H19 h;refine⟨_,h.r 12,q01 ⟨_,_,_,h.r 8,?_⟩⟩;refine⟨fun i H'=>∃(j:Nat) (a:Option Addr) (c:Nat),i=j∧j≤s.kept.length∧
     SatL H' (cellsA ob [.slice a (stB3 s++(s.kept.take j).flatMap ceB).length c] 24::slA 5 1 a (stB3 s++(s.kept.take j).flatMap ceB).length c ((stB3 s++(s.kept.take j).flatMap ceB).map U8)::pt H14.size (.deferred (some []))::pt H8.size (.deferred (some []))::
      Q::cellsA sb (q3g s p) 115::Ro.rollC p.rb p.rm s.cfg.agents::Ro.mapE p.rm s.rows::Ma.markC p.mb p.mm s.ms::Ma.mapF p.mm s.ms.m::shC p.hb p.hm s.cfg.cells::mapC p.hm s.cm::strmA Q p.tm s.sts::slA 64 74 p.ka s.kept.length p.kc (flat encO s.kept)::F),
     fun i _=>s.kept.length - i.toNat,⟨0,a10,c10,rfl,by omega,?_⟩,?_⟩
    ·rw [show stB3 s++(s.kept.take 0).flatMap ceB=stB3 s by simp];exact h.o [2,3,7,16,13,8,14,15,9,10,4,5,11,17] 18
    rintro i H20 ⟨j,a,c,rfl,hj,h⟩;refine⟨fun hlt=>?_,fun hlt=>?_⟩
    ·have hlt:j < s.kept.length:=by have:=z8s hlt; omega
     have hmem:=z92 hlt;have hcn:(cbB s.kept[j].1 s.kept[j].2).length≤10100:=hKp _ hmem;have ljn:=q8v (f:=ceB) (l:=s.kept.take j) (B:=10100) fun x hx=>hKp x (zb5 hx)
     have ljt:(s.kept.take j).length≤s.kept.length:=by rw [z9d]; omega
     have ljm:10100*(s.kept.take j).length≤10100*50000:=zb1 _ (by omega);have hr:=h.sl_rd 13 rfl;refine⟨by omega,_,_,hr.some q2h (by omega) hlt,_,_,_,_,_,_,_,_,_,_,hr.els q2h hlt,?_⟩;refine h.al fun b9 _ h=>?_
     refine h.sta 0 rfl rfl fun H21 h=>?_
     refine⟨_,_,_,h.r 1,_,_,h.q 0,_,_,_,_,_,_,_,_,h.rdt (l:=[_,_]) 0 rfl rfl,?_⟩;refine qgd (key:=s.kept[j].1) (c:=s.kept[j].2) (ok.kept _ hmem) (ser.kept _ hmem) h fun a9 c9 H22 h=>⟨_,_,_,rfl,h.r 2,?_⟩
     refine appB h (i:=3) rfl rfl rfl (h.sl_rd 0 rfl) (by rw [z8t]; omega) fun a11 c11 H23 h=>⟨_,_,_,rfl,?_⟩
     refine h.st 2 rfl rfl ?_;intro H24 h;rw [w64 (x:=(j:Int)+1)];have e5:stB3 s++(s.kept.take (j+1)).flatMap ceB=(stB3 s++(s.kept.take j).flatMap ceB)++ceB s.kept[j]:=by
      rw [q11 (f:=ceB) hlt,z93]
     refine⟨⟨j+1,a11,c11,by omega,hlt,?_⟩,by dsimp only; omega⟩;rw [e5];exact h.o [2,3,4,5,6,7,8,9,10,11,12,13,14,15] 16
    ·have hge:s.kept.length≤j:=by have:=z8v hlt; omega
     rw [z9f hge] at h;refine⟨_,_,_,h.r 0,h.getO 2 rfl,?_⟩;have h:=h.setO 2 rfl (.deferred none);refine⟨h.getO 3 rfl,?_⟩;have h:=h.setO 3 rfl (.deferred none);refine k a c _ ?_;have h:=h.o [5,6,7,8,9,10,11,12,13,1,4] 14;have h:=q0i.2 ⟨p,h⟩;exact h.o [1,2,0] 3
   ·intro j H15 _ h;exact absurd (SatL.consP h).1 id
  ·intro H9 h;exact absurd (SatL.consP h).1 id
 refine⟨_,h.r 9,q01 ⟨_,h.r 0,_,h.r 9,q01 ⟨_,h.r 0,_,h.r 9,q01 ⟨_,h.r 0,_,h.r 9,q01 ⟨_,h.r 0,_,Ma.Now_spec h 3 rfl,?_,?_⟩⟩⟩⟩⟩
 ·refine h.al fun b10 _ h=>⟨?_,?_⟩
  ·refine qae (vs:=[s.now,s.boots,s.sunk,s.ms.now]) h (fun H h=>h.ce_rd 0 rfl) (by simp) fun a1 c1 H2 h=>⟨_,_,_,rfl,?_⟩
   refine h.al fun b11 _ h=>?_
   refine h.st 0 rfl rfl ?_;intro H3 h;exact main _ _ _ _ (h.o [0,1,3,4,5,6,7,8,9,10,11,12,13] 14)
  ·refine h.al fun b12 _ h=>?_
   refine qae (vs:=[s.now,s.boots,s.sunk,s.ms.now]) h (fun H h=>h.ce_rd 1 rfl) (by simp) fun a1 c1 H2 h=>⟨_,_,_,rfl,?_⟩
   refine h.st 1 rfl rfl ?_;intro H3 h;exact main _ _ _ _ (h.o [1,0,3,4,5,6,7,8,9,10,11,12,13] 14)
 ·refine h.al fun b13 _ h=>⟨Ma.Now_spec h 4 rfl,h.r 1,h.r 10,h.r 1,h.r 10,h.r 1,h.r 10,h.r 1,h.r 10,?_⟩
  refine h.al fun b14 _ h=>?_
  refine qae (vs:=[s.now,s.boots,s.sunk,s.ms.now]) h (fun H h=>h.ce_rd 0 rfl) (by simp) fun a1 c1 H2 h=>⟨_,_,_,rfl,?_⟩
  refine h.st 2 rfl rfl ?_;intro H3 h;exact main _ _ _ _ (h.o [2,0,3,4,5,6,7,8,9,10,11,12,13] 14)
end
end Go.Proofs.YtfmkddccnjidmaaGreatDoor
namespace Go.Nm
def qfl (hs:HS Pv)(s:RS):Except Int (HS Pv × RS):=match q1h s with
 | .error e=>.error e
 | .ok (n,s1)=>match q4w s1 with
  | .error e=>.error e
  | .ok (ev,s2)=>if q4v n [ev]=false then .error 10 else
   if 0 < (hs.offer n [ev]).2.1.length∨0 < (hs.offer n [ev]).2.2 then .error 10 else .ok ((hs.offer n [ev]).1,s2)
end Go.Nm
namespace Go.Proofs.YtfmkddccnjidmaaGreatDoor
open Go.Nm
section
variable {F L:List Assn} {H:Heap} {K KP:Value→Heap→Prop} {Q Q':Assn} {sb:Nat} {s:Sta}
def WPost (rb hb:Nat)(Q:Assn)(F:List Assn)(K KP:Value→Heap→Prop):Except Int (HS Pv × RS)→Prop
 | .ok (hs,s)=>∀Q' H',Sub Q Q'→s.e=0→q04 s.bs→s.bs.length≤1099511627776→SatL H' (Q'::crdA rb s::hldA Q' hb hs::F)→K (.tuple #[]) H'
 | .error e=>∀Q' H',e≠0→Sub Q Q'→SatL H' (Q'::F)→KP (pnV e) H'
set_option maxHeartbeats 2000000 in
theorem qoz {rb hb:Nat}{r:RS}{hs:HS Pv}(ok:hs.Ok)(hn:hs.next≤1125899906842624)(h:SatL H (Q::crdA rb r::hldA Q hb hs::F))(hb0:q04 r.bs)(hl0:r.bs.length≤1099511627776)
  (k:WPost rb hb Q F K KP (qfl hs r)):CP 107 #[.agg #[PA rb 0],PA hb 0] H K KP:=by
 refine qrl ?_;refine h.al fun b H0 h=>?_
 intro Jn hJ;unfold qfl at k;have main:∀(n:Int) (Q1:Assn) (ev:Ev) (s2:RS) eb H',(match (if q4v n [ev.p]=false then (.error 10:Except Int (HS Pv × RS)) else
    if 0 < (hs.offer n [ev.p]).2.1.length∨0 < (hs.offer n [ev.p]).2.2 then .error 10 else .ok ((hs.offer n [ev.p]).1,s2)) with|x=>WPost rb hb Q F K KP x)→Sub Q Q1→q5z Q1 ev→s2.e=0→q04 s2.bs→s2.bs.length≤1099511627776→
   SatL H' (cellsA eb (encV ev) 95::Q1::crdA rb s2::hldA Q hb hs::cellsA b [PA rb 0] 109::F)→Jn n eb 0 H':=by
  intro n Q1 ev s2 eb H' k hsub hlab he2 hb2 hl2 h;dsimp only at k;refine hJ _ _ _ _ ?_;refine⟨_,_,_,_,_,_,h.q 0,?_⟩;refine h.al fun b1 _ h=>?_
  refine h.al fun b2 _ h=>?_
  refine h.st 0 rfl rfl ?_;intro H2 h;refine⟨_,_,_,_,_,_,_,_,_,_,_,_,_,_,_,_,_,_,_,_,h.q 0,?_⟩;have hfl:flat encV [ev]=encV ev:=by simp [flat]
  refine qjb (evs:=[ev]) (a:=some ⟨b1,0,none⟩) (c:=1) h ⟨fun H h=>by rw [hfl]; exact h.ce_rd 1 rfl,fun e he H h=>by
   rw [z9q] at he; subst he;exact hlab.at h 3 rfl⟩ (by simp) fun H3 h=>⟨_,rfl,?_⟩
  rw [qoo];show ∀Jn1:Heap→Prop,_;intro Jn1 hJ1;refine⟨fun hc=>?_,fun hc=>hJ1 _ ?_⟩
  ·rw [if_pos (by simpa using hc)] at k;exact k Q1 _ (by decide) hsub (h.o [3] 7)
  ·have hbt:q4v n [ev.p]=true:=by simpa using hc
   rw [if_neg (by rw [hbt]; simp)] at k;refine⟨_,_,_,_,_,_,h.q 2,?_⟩;refine h.al fun b3 _ h=>?_
   have h:=h.o [6,0,4,5] 8;have h:=qon hsub h;refine qje (items:=[ev]) h ok hn (fun H h=>by rw [hfl]; exact h.ce_rd 0 rfl) (fun e he=>by rw [z9q] at he; subst he; exact hlab) (by simp) fun a2 c2 ready H4 hready hl h=>⟨_,_,_,_,rfl,?_⟩
   have hrl:(hs.offer n ([ev].map Ev.p)).2.1.length=ready.length:=by rw [← hready,z9c]
   intro Jn2 hJ2;refine⟨fun hx=>?_,fun hx=>hJ2 _ ?_⟩
   ·have hx:0 < (hs.offer n [ev.p]).2.1.length∨0 < (hs.offer n [ev.p]).2.2:=by
     simp only [z97,z8u] at hx
     rcases hx with hx|hx
     ·exact .inl (by have:(hs.offer n [ev.p]).2.1.length=ready.length:=hrl; omega)
     ·exact .inr hx
    rw [if_pos hx] at k;exact k Q1 _ (by decide) hsub (h.o [3] 5)
   ·have hx:¬(0 < (hs.offer n [ev.p]).2.1.length∨0 < (hs.offer n [ev.p]).2.2):=by
     simp only [z94,z8x] at hx;rintro (h1|h1)
     ·exact hx.1 (by have:(hs.offer n [ev.p]).2.1.length=ready.length:=hrl; omega)
     ·exact hx.2 h1
    rw [if_neg hx] at k;exact k Q1 _ hsub he2 hb2 hl2 (h.o [3,4,1] 5)
 refine⟨_,h.q 0,_,h.q 0,?_,?_⟩
 ·have h:=h.o [2,1,0,3] 4;refine q1x h hb0 hl0 ?_
  cases hr:q1h r with
  | error e=>
   rw [hr] at k;exact fun H' he h=>k _ _ he (Sub.refl Q) (h.o [0] 3)
  | ok q=>
  obtain⟨n,s1⟩:=q;rw [hr] at k;dsimp only at k;intro H1 he1 hb1 hl1 h;refine⟨_,rfl,h.q 2,?_,?_⟩
  ·have h:=h.o [1,0,2,3] 4;refine qb2 h hb1 hl1 ?_
   cases hr2:q4w s1 with
   | error e=>
    rw [hr2] at k;exact fun Q1 H' he hs1 h=>k _ _ he hs1 (h.o [0] 3)
   | ok q=>
   obtain⟨pv,s2⟩:=q;rw [hr2] at k;dsimp only at k;intro Q1 ev H2 hsub hlab hev he2 hb2 hl2 h;subst hev;refine⟨_,_,_,_,_,_,rfl,?_⟩;refine h.al fun b4 _ h=>?_
   refine h.st 0 rfl rfl ?_;intro H3 h;exact main n Q1 ev s2 b4 H3 k hsub hlab he2 hb2 hl2 (h.o [0,1,2,4,3] 5)
  ·refine h.al fun b5 _ h=>⟨h.q 3,?_⟩
   have h:=h.o [2,1,0,3,4] 5;refine qb2 h hb1 hl1 ?_
   cases hr2:q4w s1 with
   | error e=>
    rw [hr2] at k;exact fun Q1 H' he hs1 h=>k _ _ he hs1 (h.o [0] 4)
   | ok q=>
   obtain⟨pv,s2⟩:=q;rw [hr2] at k;dsimp only at k;intro Q1 ev H2 hsub hlab hev he2 hb2 hl2 h;subst hev;refine⟨_,_,_,_,_,_,rfl,?_⟩;refine h.st 2 rfl rfl ?_;intro H3 h;exact main n Q1 ev s2 b5 H3 k hsub hlab he2 hb2 hl2 (h.o [2,0,1,4,3] 5)
 ·refine h.al fun b6 _ h=>⟨h.q 1,h.q 1,?_⟩
  have h:=h.o [3,2,0,1,4] 5;refine q1x h hb0 hl0 ?_
  cases hr:q1h r with
  | error e=>
   rw [hr] at k;exact fun H' he h=>k _ _ he (Sub.refl Q) (h.o [0] 4)
  | ok q=>
  obtain⟨n,s1⟩:=q;rw [hr] at k;dsimp only at k;intro H1 he1 hb1 hl1 h;refine⟨_,rfl,h.q 3,?_⟩;have h:=h.o [1,0,2,3,4] 5;refine qb2 h hb1 hl1 ?_
  cases hr2:q4w s1 with
  | error e=>
   rw [hr2] at k;exact fun Q1 H' he hs1 h=>k _ _ he hs1 (h.o [0] 4)
  | ok q=>
  obtain⟨pv,s2⟩:=q;rw [hr2] at k;dsimp only at k;intro Q1 ev H2 hsub hlab hev he2 hb2 hl2 h;subst hev;refine⟨_,_,_,_,_,_,rfl,?_⟩;refine h.st 2 rfl rfl ?_;intro H3 h;exact main n Q1 ev s2 b6 H3 k hsub hlab he2 hb2 hl2 (h.o [2,0,1,4,3] 5)
end
end Go.Proofs.YtfmkddccnjidmaaGreatDoor
namespace Go.Nm
def q9e:Rd Ot:=fun s=>match q70 s with
 | .error e=>.error e
 | .ok (w,s1)=>
  if (tRes (tRes s1.bs.length s1).2.bs.length (tRes s1.bs.length s1).2).2.e≠0 then .error (tRes (tRes s1.bs.length s1).2.bs.length (tRes s1.bs.length s1).2).2.e else
  if (!(q6z (strB (tRes s1.bs.length s1).1)).2.2 || !inM w 0 4611686018427387903)=true then .error 10 else
  if (q74 (tRes (tRes s1.bs.length s1).2.bs.length (tRes s1.bs.length s1).2).1).2≠0 then .error (q74 (tRes (tRes s1.bs.length s1).2.bs.length (tRes s1.bs.length s1).2).1).2 else
  .ok ((⟨w,strB (tRes s1.bs.length s1).1⟩,(q74 (tRes (tRes s1.bs.length s1).2.bs.length (tRes s1.bs.length s1).2).1).1),(tRes (tRes s1.bs.length s1).2.bs.length (tRes s1.bs.length s1).2).2)
theorem q4c {α:Type}{s s':RS}{x y:α}(h:okR s x=.ok (y,s')):s'=s∧y=x∧s.e=0:=by
 unfold okR at h
 split at h
 ·cases h
 ·rename_i h0
  cases h
  exact⟨rfl,rfl,by simpa using h0⟩
theorem qaj {s s':RS}{w:Int}(h:q70 s=.ok (w,s')):s'.bs.length≤s.bs.length:=by
 rw [(q4c h).1]; exact q4p s
theorem q0p {s s':RS}{w:Int}(h:q1h s=.ok (w,s')):s'.bs.length≤s.bs.length:=by
 rw [(q4c h).1]; exact q4p s
theorem qea {s s':RS}{w:Int}(h:numR s=.ok (w,s')):s'.bs.length≤s.bs.length:=by
 rw [(q4c h).1]; exact q4p s
theorem q6d {s s':RS}{m w:Int}(h:q22 m s=.ok (w,s')):s'.bs.length≤s.bs.length:=by
 rw [(q4c h).1]; exact qdu s m
theorem qfm {s s':RS}{m w:Int}(h:upR m s=.ok (w,s')):s'.bs.length≤s.bs.length:=by
 unfold upR at h
 cases e:q1h s with
 | error e'=>rw [e] at h; cases h
 | ok q=>
  obtain⟨v,s1⟩:=q;rw [e] at h;dsimp only at h
  split at h
  ·cases h; exact q0p e
  ·cases h
end Go.Nm
namespace Go.Proofs.YtfmkddccnjidmaaGreatDoor
open Go.Nm
section
variable {F L:List Assn} {H:Heap} {K KP:Value→Heap→Prop} {Q Q':Assn} {sb:Nat} {s:Sta}
set_option maxHeartbeats 4000000 in
theorem qsu {rb:Nat}{r:RS}(h:SatL H (crdA rb r::F))(hb0:q04 r.bs)(hl0:r.bs.length≤1000000000)
  (k:z2u rb F (fun o:Ot=>.tuple #[aggK o.1,aggC o.2]) K KP (q9e r)):CP 47 #[.agg #[PA rb 0]] H K KP:=by
 refine z5w ?_;refine h.al fun b _ h=>?_
 refine h.al fun b1 _ h=>?_
 refine h.al fun b2 H0 h=>?_
 intro Jn hJ;unfold q9e at k;have main:∀(w:Int) (s1:RS) kb H',q70 r=.ok (w,s1)→q04 s1.bs→s1.bs.length≤1099511627776→
   SatL H' (crdA rb (tRes s1.bs.length s1).2::cellsA kb [I64 w,.string (strB (tRes s1.bs.length s1).1)] 55::cellsA b2 (encC Cl.z) 62::cellsA b1 [I64 0,.string ⟨#[]⟩] 55::cellsA b [PA rb 0] 109::F)→Jn kb 0 H':=by
  intro w s1 kb H1 hsr hb1 hl1 h;have hsl:=qaj hsr;rw [hsr] at k;dsimp only at k;have t1b:=q2n (m:=s1.bs.length) hb1;have t1l:=q5k s1 s1.bs.length;generalize tRes s1.bs.length s1=T1 at *;refine hJ _ _ _ ?_;refine⟨_,h.r 4,_,h.r 4,_,qb0 h,?_⟩;refine q5q (most:=T1.2.bs.length) h t1b.1 (by omega) (by unfold wf64; omega) fun H2 h=>⟨_,rfl,_,h.r 4,_,qa5 h,?_⟩
  have t2b:=q2n (m:=T1.2.bs.length) t1b.1;have t2l:=q5k T1.2 T1.2.bs.length;generalize tRes T1.2.bs.length T1.2=T2 at *;refine q1i (fun he=>⟨rfl,_,h.r 1,?_⟩) fun he=>?_
  ·rw [if_neg (by simpa using he)] at k;have hsz:=q4q T1.1;refine qvw (by omega) h fun la lc H3 h=>⟨_,_,_,_,_,rfl,?_⟩
   generalize (q6z (strB T1.1))=P at *;refine h.al fun b3 _ h=>?_
   refine h.st 0 rfl rfl ?_;intro H4 h;refine⟨_,fun _=>h.r 3,_,fun _=>q2t,?_⟩
   intro Jn1 hJ1;refine⟨fun hx=>?_,fun hx=>hJ1 _ ?_⟩
   ·rw [if_pos hx] at k;exact k _ (by decide) (h.o [] 7)
   ·rw [if_neg (by rw [hx]; simp)] at k;refine qg3 t2b.2 h fun a3 c3 H5 h=>⟨_,_,_,rfl,?_⟩
    refine z34 rfl t2b.2 h (fun H h=>h.sl_rd 0 rfl) (by omega) fun H6 h=>⟨_,_,_,_,_,_,_,_,_,rfl,?_⟩
    have hwc:=q74 T2.1;generalize q74 T2.1=B at *;refine h.al fun b4 _ h=>?_
    refine h.sta 0 rfl rfl fun H7 h=>?_
    refine q1i (fun hb=>⟨rfl,?_⟩) fun hb=>?_
    ·rw [if_neg (by simpa using hb)] at k;refine⟨_,_,h.q 5,_,_,_,_,_,_,_,_,h.rda 0 rfl,?_⟩;refine h.st 7 rfl rfl ?_;intro H8 h;refine⟨h.rda 0 rfl,?_⟩;refine h.sta 6 rfl rfl fun H9 h=>?_
     refine⟨_,_,h.q 7,_,_,_,_,_,_,_,_,h.rda 6 rfl,?_⟩;exact k _ he t2b.1 (by omega) (h.o [4] 9)
    ·rw [if_pos hb] at k;exact k _ hb (h.o [] 9)
  ·rw [if_pos he] at k;exact k _ he (h.o [] 5)
 refine⟨_,h.q 2,_,h.r 2,_,h.r 2,?_,?_⟩
 ·have h:=h.o [3,0,1,2] 4;refine q72 h hb0 (by omega) ?_
  cases hr:q70 r with
  | error e=>
   rw [hr] at k;exact fun H' he h=>k _ he (h.o [] 3)
  | ok q=>
  obtain⟨w,s1⟩:=q;intro H1 he1 hb1 hl1 h;refine⟨_,rfl,h.r 3,h.r 3,_,qb0 h,?_,?_⟩
  ·refine q5q (most:=s1.bs.length) h hb1 hl1 (by unfold wf64; omega) fun H2 h=>⟨_,rfl,?_⟩
   refine h.al fun b5 _ h=>?_
   refine h.st 0 rfl rfl ?_;intro H3 h;exact main w s1 b5 H3 hr hb1 hl1 (h.o [1,0,2,3,4] 5)
  ·refine h.al fun b6 _ h=>⟨qb0 (h.o [1] 2),h.r 4,h.r 4,?_⟩
   have h:=h.o [1,0,2,3,4] 5;refine q5q (most:=s1.bs.length) h hb1 hl1 (by unfold wf64; omega) fun H2 h=>⟨_,rfl,?_⟩
   refine h.st 1 rfl rfl ?_;intro H3 h;exact main w s1 b6 H3 hr hb1 hl1 h
 ·refine h.al fun b7 _ h=>⟨h.r 3,h.r 3,h.q 3,?_⟩
  have h:=h.o [4,0,1,2,3] 5;refine q72 h hb0 (by omega) ?_
  cases hr:q70 r with
  | error e=>
   rw [hr] at k;exact fun H' he h=>k _ he (h.o [] 4)
  | ok q=>
  obtain⟨w,s1⟩:=q;intro H1 he1 hb1 hl1 h;refine⟨_,rfl,h.r 4,h.r 4,_,qb0 h,?_⟩;refine q5q (most:=s1.bs.length) h hb1 hl1 (by unfold wf64; omega) fun H2 h=>⟨_,rfl,?_⟩
  refine h.st 1 rfl rfl ?_;intro H3 h;exact main w s1 b7 H3 hr hb1 hl1 h
end
end Go.Proofs.YtfmkddccnjidmaaGreatDoor
namespace Go.Nm
def smpR:Rd Smp:=fun s=>match q1h s with
 | .error e=>.error e
 | .ok (a,s1)=>match q1h s1 with
  | .error e=>.error e
  | .ok (b,s2)=>match q1h s2 with
   | .error e=>.error e
   | .ok (c,s3)=>match q1h s3 with
    | .error e=>.error e
    | .ok (d,s4)=>.ok (⟨a,b,c,d⟩,s4)
def qak:Nat→Rd (List Smp)
 | 0,s=>.ok ([],s)
 | n+1,s=>match qak n s with
  | .error e=>.error e
  | .ok (l,s1)=>match smpR s1 with
   | .error e=>.error e
   | .ok (x,s2)=>.ok (l++[x],s2)
def q4r (hs:HS Pv):Nat→RS→Except Int (HS Pv × RS)
 | 0,s=>.ok (hs,s)
 | n+1,s=>match q4r hs n s with
  | .error e=>.error e
  | .ok (h,s1)=>qfl h s1
theorem qsv:∀{n:Nat} {s:RS} {vs:List Smp} {s':RS},qak n s=.ok (vs,s')→vs.length=n
 | 0,s,vs,s',h=>by cases h; rfl
 | n+1,s,vs,s',h=>by
  unfold qak at h
  split at h
  ·cases h
  ·rename_i ws s1 h1
   split at h
   ·cases h
   ·cases h
    rw [z8t,qsv h1]; rfl
theorem qsw {s:RS}{e:Int}:∀{n j:Nat},qak j s=.error e→j≤n→qak n s=.error e
 | 0,j,h,hj=>by
  obtain rfl:j=0:=by omega
  exact h
 | n+1,j,h,hj=>by
  rcases z9h n j with h1|h1
  ·obtain rfl:j=n+1:=by omega
   exact h
  ·unfold qak;rw [qsw h h1]
theorem qmh {hs:HS Pv}{s:RS}{e:Int}:∀{n j:Nat},q4r hs j s=.error e→j≤n→q4r hs n s=.error e
 | 0,j,h,hj=>by
  obtain rfl:j=0:=by omega
  exact h
 | n+1,j,h,hj=>by
  rcases z9h n j with h1|h1
  ·obtain rfl:j=n+1:=by omega
   exact h
  ·unfold q4r;rw [qmh h h1]
def qp0 (c:Cfg)(last:Int)(hd:Bool)(streak:Int)(l:List Smp):Rd Str:=fun s5=>
 if ¬(l.length≤8∧0≤streak∧∀x∈l,x.ok) then .error 10 else match q1h s5 with
  | .error e=>.error e
  | .ok (next,s6)=>if next < 0∨1099511627776 < next then .error 11 else match q22 256 s6 with
   | .error e=>.error e
   | .ok (m,s7)=>match q4r ⟨next,c.hold,[]⟩ m.toNat s7 with
    | .error e=>.error e
    | .ok (hs,s8)=>.ok (⟨⟨c.rho,c.trust,hd,streak,l⟩,hs,last⟩,s8)
def qku (c:Cfg)(last:Int):Rd Str:=fun s1=>match numR s1 with
 | .error e=>.error e
 | .ok (hd,s2)=>match q1h s2 with
  | .error e=>.error e
  | .ok (streak,s3)=>match q22 8 s3 with
   | .error e=>.error e
   | .ok (n,s4)=>match qak n.toNat s4 with
    | .error e=>.error e
    | .ok (l,s5)=>qp0 c last (decide (hd=1)) streak l s5
def strR (c:Cfg):Rd Str:=fun s=>match q70 s with
 | .error e=>.error e
 | .ok (last,s1)=>if inM last (-1) 4611686018427387903=false then .error 10 else qku c last s1
theorem z7r {s s':RS}{e:Pv}(h:q4w s=.ok (e,s')):wf64 e.value:=by
 unfold q4w at h
 cases h1:q1h s with
 | error e'=>rw [h1] at h; cases h
 | ok q=>
  obtain⟨a,s1⟩:=q;rw [h1] at h;dsimp only at h
  cases h2:q70 s1 with
  | error e'=>rw [h2] at h; cases h
  | ok q=>
   obtain⟨b,s2⟩:=q;rw [h2] at h;dsimp only at h;rw [(q4c h).2.1];show wf64 b;rw [(q4c h2).2.1];exact q81 _
structure qwm (m:Int)(hs:HS Pv):Prop where
 ok:hs.Ok
 most:hs.most=m
 next:hs.next≤1099511627776
 rows:∀p∈hs.rows,p.1 < 1099511627776∧q7p p.2=true∧wf64 p.2.value
theorem z3h {m:Int}{hs hs':HS Pv}{s s':RS}(g:qwm m hs)(h:qfl hs s=.ok (hs',s')):qwm m hs':=by
 unfold qfl at h
 cases h1:q1h s with
 | error e'=>rw [h1] at h; cases h
 | ok q=>
  obtain⟨n,s1⟩:=q;rw [h1] at h;dsimp only at h
  cases h2:q4w s1 with
  | error e'=>rw [h2] at h; cases h
  | ok q=>
   obtain⟨ev,s2⟩:=q;rw [h2] at h;dsimp only at h
   split at h
   ·cases h
   rename_i hb
   split at h
   ·cases h
   cases h
   have hb:q4v n [ev]=true:=by simpa using hb
   unfold q4v at hb;simp only [z8w,z8u,z9v,z8y,z9j] at hb;have ho:=HS.offer_ok g.ok n [ev];have hlt:=qyn (s:=hs) (first:=n) (B:=1099511627776) (items:=[ev]) g.next (fun p hp=>(g.rows p hp).1) (by simp only [z8y,z9j]; omega)
   refine⟨ho.1,ho.2.2.2.trans g.most,hlt.1,fun p hp=>⟨hlt.2 p hp,?_⟩⟩
   rcases (qad (s:=hs) (first:=n) (items:=[ev])).2 p hp with h|h
   ·rw [z9q] at h;rw [h];exact⟨hb.2.2 ev (z9q.2 rfl),z7r h2⟩
   ·exact (g.rows p h).2
theorem qcp {m:Int}{hs:HS Pv}{s:RS}(g:qwm m hs):∀{n:Nat} {hs':HS Pv} {s':RS},q4r hs n s=.ok (hs',s')→qwm m hs'
 | 0,hs',s',h=>by cases h; exact g
 | n+1,hs',s',h=>by
  unfold q4r at h
  split at h
  ·cases h
  ·rename_i h1;exact z3h (qcp g h1) h
def bitF (v m:Int):Bool:=!decide (q0g .and .u64 v m=0)
def flR (c:Cfg)(t:Int):Rd (Fl × Str):=fun s=>match numR s with
 | .error e=>.error e
 | .ok (v,s1)=>match strR c s1 with
  | .error e=>.error e
  | .ok (st,s2)=>.ok ((⟨t,bitF v 1,bitF v 2,bitF v 4⟩,st),s2)
end Go.Nm
namespace Go.Proofs.YtfmkddccnjidmaaGreatDoor
open Go.Nm
section
variable {F L:List Assn} {H:Heap} {K KP:Value→Heap→Prop} {Q Q':Assn} {sb:Nat} {s:Sta}
def APost (rb sb tm:Nat)(cs:List Value)(sts:List (Option Str))(a:Nat)(Q:Assn)(F:List Assn)(K KP:Value→Heap→Prop):Except Int ((Fl × Str) × RS)→Prop
 | .ok (x,s)=>∀Q' H',Sub Q Q'→s.e=0→q04 s.bs→s.bs.length≤1099511627776→SatL H' (Q'::crdA rb s::cellsA sb cs 115::strmA Q' tm (sts.set a (some x.2))::F)→K (aggF x.1) H'
 | .error e=>∀Q' H',e≠0→Sub Q Q'→SatL H' (Q'::F)→KP (pnV e) H'
theorem qeb:∀{bl:List (Option Nat)} {sts:List (Option Str)} {k:Nat} {F:List Assn},SatL H (strsA Q bl sts::F)→SatL H (strsA Q (bl.set k none) (sts.set k none)::F)
 | [],_,_,_,h=>h
 | none::_,[],0,_,h=>h
 | some _::_,[],0,_,h=>h
 | none::_,[],_+1,_,h=>h
 | some _::_,[],_+1,_,h=>h
 | none::bs,y::ss,0,_,h=>h
 | some x::bs,none::ss,0,_,h=>h
 | some x::bs,some y::ss,0,_,h=>(q1z.1 h).tl
 | none::bs,y::ss,k+1,_,h=>qeb (bl:=bs) (sts:=ss) (k:=k) h
 | some x::bs,none::ss,k+1,_,h=>qeb (bl:=bs) (sts:=ss) (k:=k) h
 | some x::bs,some y::ss,k+1,_,h=>by
  have h:=q1z.1 h;have h:=h.o [1,0] 2;have h:=qeb (bl:=bs) (sts:=ss) (k:=k) h;have h:=h.o [1,0] 2;exact q1z.2 h
set_option maxHeartbeats 8000000 in
theorem qwn {rb b b1 fb nb tm cb hb:Nat}{a:Nat}{cs:List Value}{sts:List (Option Str)}{fl:Fl}{ck:Ck}{last m:Int}{r:RS}{hs:HS Pv}{P:Except Int ((Fl × Str) × RS)}
  (g:qwm hs.most hs) (ha:a < sts.length) (h18:lget cs 18=some (.map (some tm))) (hm:0≤m∧m≤256) (hb0:q04 r.bs) (hl0:r.bs.length≤1099511627776) (he0:r.e=0)
  (hP:P=match q4r hs m.toNat r with|.error e=>.error e|.ok (h,s8)=>.ok ((fl,⟨ck,h,last⟩),s8))
  (k:APost rb sb tm cs sts a Q F K KP P)
  (h:SatL H (Q::crdA rb r::hldA Q hb hs::cellsA nb [PA cb 0,PA hb 0,I64 last] 149::ckA cb ck::cellsA fb (encF fl) 80::cellsA b1 [I64 0,.bool false,.bool false,.bool false] 80::cellsA b [PA rb 0] 109::cellsA sb cs 115::strmA Q tm sts::F)) :
  ∃(Inv1:Int→Heap→Prop) (mu1:Int→Heap→Nat),Inv1 0 H∧
   ∀(t114:Int),∀H_50:Heap,Inv1 t114 H_50→q40.l1 sb 0 (a:Int) K KP b b1 fb 0 (some ⟨nb,0,none⟩) (some ⟨hb,0,none⟩) m Inv1 mu1 t114 H_50:=by
 refine⟨fun i H'=>∃(j:Nat) (Q1:Assn) (hs1:HS Pv) (s1:RS),i=j∧(j:Int)≤m∧Sub Q Q1∧q4r hs j r=.ok (hs1,s1)∧s1.e=0∧q04 s1.bs∧s1.bs.length≤1099511627776∧
  SatL H' (Q1::crdA rb s1::hldA Q1 hb hs1::cellsA nb [PA cb 0,PA hb 0,I64 last] 149::ckA cb ck::cellsA fb (encF fl) 80::cellsA b1 [I64 0,.bool false,.bool false,.bool false] 80::cellsA b [PA rb 0] 109::cellsA sb cs 115::strmA Q tm sts::F),
  fun i _=>m.toNat - i.toNat,⟨0,Q,hs,r,rfl,hm.1,Sub.refl Q,rfl,he0,hb0,hl0,h⟩,?_⟩
 rintro i H1 ⟨j,Q1,hs1,s1,rfl,hj,hsub,hw,he1,hb1,hl1,h⟩;unfold q40.l1;have g1:=qcp g hw;refine⟨fun hc=>?_,fun hc=>?_⟩
 ·have hc:=z8s hc;refine⟨_,h.q 7,?_⟩;have hn1:=g1.next;refine qoz g1.ok (by omega) h hb1 hl1 ?_;have hw1:q4r hs (j+1) r=qfl hs1 s1:=by
   rw [q4r,hw]
  cases hr:qfl hs1 s1 with
  | error e=>
   rw [hr] at hw1;rw [hP,qmh hw1 (by omega)] at k;exact fun Q2 H' he hs2 h=>k Q2 H' he (hsub.trans hs2) (h.o [0] 8)
  | ok q=>
  obtain⟨hs2,s2⟩:=q;rw [hr] at hw1;intro Q2 H' hq2 he2 hb2 hl2 h;refine⟨rfl,?_⟩;rw [w64 (x:=(j:Int)+1)];exact⟨⟨j+1,Q2,hs2,s2,by omega,by omega,hsub.trans hq2,hw1,he2,hb2,hl2,h⟩,by dsimp only; omega⟩
 ·have hge:=z8v hc;have hjm:j=m.toNat:=by omega
  subst hjm;rw [hP,hw] at k;refine⟨_,(h.r 8).trans h18,?_⟩;have h:=h.o [9,0,1,2,3,4,5,6,7,8] 10;have h:=qsk hsub h;obtain⟨bl,hbm,h⟩:=q5m.1 h;refine h.mp_update (α:=Option Nat) (v:=some nb) (x:=((a:Nat):Int)) z7a ko2 0 rfl fun H2 h=>?_
  refine⟨_,_,_,_,h.q 7,?_⟩;refine h.st 8 rfl rfl ?_;intro H3 h;refine⟨_,_,_,_,h.q 8,?_⟩;refine k Q1 _ hsub he1 hb1 hl1 ?_;have h:=h.o [1,0,2,3,4,5,6,10] 11;have h:=qeb (k:=a) h;have h:=h.o [5,6,4,1,0,2,3,7] 8;have h:SatL H3 (strA Q1 nb ⟨ck,hs1,last⟩::_):=q1c.2 ⟨cb,hb,h⟩;have h:=h.o [1,0,2,3,4,5] 6;have h:=z7k hbm ha h;exact h.o [1,2,3,0] 4
def withFl (fl:Fl):Except Int (Str × RS)→Except Int ((Fl × Str) × RS)
 | .error e=>.error e
 | .ok (st,s)=>.ok ((fl,st),s)
set_option maxHeartbeats 8000000 in
theorem qwo {rb b b1 fb nb tm cb hb0:Nat}{a:Nat}{cs:List Value}{sts:List (Option Str)}{fl:Fl}{ck0:Ck}{c:Cfg}{last streak:Int}{hd:Bool}{l:List Smp}{la:Option Addr}{lc:Nat}{r:RS}
  (ok:qbk c) (hrho:ck0.rho=c.rho) (hle:ck0.least=c.trust) (ha:a < sts.length) (h18:lget cs 18=some (.map (some tm))) (h8:lget cs 8=some (I64 c.hold)) (hbb:q04 r.bs) (hl0:r.bs.length≤1099511627776)
  (k:APost rb sb tm cs sts a Q F K KP (withFl fl (qp0 c last hd streak l r)))
  (h:SatL H (ckA cb ck0::slA 43 4 la l.length lc (flat q4t l)::Q::crdA rb r::cellsA nb [PA cb 0,PA hb0 0,I64 last] 149::cellsA fb (encF fl) 80::cellsA b1 [I64 0,.bool false,.bool false,.bool false] 80::cellsA b [PA rb 0] 109::cellsA sb cs 115::strmA Q tm sts::F)) :
  NN (some ⟨nb,0,none⟩) (
 ∃v2,q02 H (adrB (some ⟨nb,0,none⟩)) (adrO (some ⟨nb,0,none⟩))=some (.pointer v2)∧
 CF 106 #[(.pointer v2),(.bool hd),(I64 streak),(.slice la l.length lc)] H fun u16 H_39=>∃r15,u16=(I64 r15)∧
 CP 45 #[(I64 r15)] H_39 (fun u17 H_40=>u17=(.tuple #[])∧
 ∃c12,q03 H_40 b 0 [(.pointer c12)]∧
 ∃v3,q02 H_40 sb (0+8)=some (I64 v3)∧
 CP 43 #[(.agg #[(.pointer c12)])] H_40 (fun u18 H_42=>∃r16,u18=(I64 r16)∧
 q02 H_42 sb (0+8)=some (I64 v3)∧
 CF 56 #[(I64 r16),(I64 v3)] H_42 fun u19 H_44=>∃r17 r18,u19=(.tuple #[(.pointer r17),(I64 r18)])∧
 CP 45 #[(I64 r18)] H_44 (fun u20 H_45=>u20=(.tuple #[])∧
 NN (some ⟨nb,0,none⟩) (
 ST H_45 (adrB (some ⟨nb,0,none⟩)) ((adrO (some ⟨nb,0,none⟩))+1) [(.pointer r17)] fun H_47=>
 ∃c13,q03 H_47 b 0 [(.pointer c13)]∧
 CP 42 #[(.agg #[(.pointer c13)]),(I64 256)] H_47 (fun u21 H_48=>∃r19,u21=(I64 r19)∧
 ∃(Inv1:Int→Heap→Prop) (mu1:Int→Heap→Nat),Inv1 0 H_48∧
 ∀(t114:Int),∀H_50:Heap,Inv1 t114 H_50→q40.l1 sb 0 (a:Int) K KP b b1 fb 0 (some ⟨nb,0,none⟩) r17 r19 Inv1 mu1 t114 H_50) (fun (pn16:Value) (H_49:Heap)=>
 KP pn16 H_49))) (fun (pn15:Value) (H_46:Heap)=>
 KP pn15 H_46)) (fun (pn14:Value) (H_43:Heap)=>
 KP pn14 H_43)) (fun (pn13:Value) (H_41:Heap)=>
 KP pn13 H_41)):=by
 unfold qp0 at k;refine q01 ⟨_,h.rd 4 rfl 0,?_⟩;refine z1j (held:=hd) (streak:=streak) h (fun H h=>h.sl_rd 0 rfl) (fun hn H1 h=>⟨_,rfl,?_⟩) fun hp H1 h=>⟨_,rfl,?_⟩
 ·rw [if_pos hn] at k;exact q1i (fun e=>absurd e (by decide)) fun e=>k Q _ (by decide) (Sub.refl Q) (h.o [2] 10)
 rw [if_neg (not_not_intro hp)] at k;refine q1i (fun _=>⟨rfl,_,h.q 7,_,(h.r 8).trans h8,?_⟩) fun e=>absurd rfl e
 have h:=h.o [3,0,2,4,5,6,7,8,9] 10;refine q1x h hbb hl0 ?_
 cases hr:q1h r with
 | error e=>
  rw [hr] at k;exact fun H' he h=>k Q _ he (Sub.refl Q) (h.o [1] 8)
 | ok q=>
 obtain⟨next,s6⟩:=q;rw [hr] at k;dsimp only at k;intro H2 he6 hb6 hl6 h;refine⟨_,rfl,(h.r 7).trans h8,?_⟩;refine qjd (Q:=Q) h (fun hn=>⟨_,_,rfl,?_⟩) fun hb H3 hp2 h=>⟨_,_,rfl,?_⟩
 ·have hh:=ok.hd;rw [if_pos (by omega)] at k;exact q1i (fun e=>absurd e (by decide)) fun e=>k Q _ (by decide) (Sub.refl Q) (h.o [2] 9)
 rw [if_neg (by omega)] at k;refine q1i (fun _=>⟨rfl,q01 ?_⟩) fun e=>absurd rfl e
 refine h.st 4 rfl rfl ?_;intro H4 h;refine⟨_,h.q 7,?_⟩;have h:=h.o [1,0,2,3,4,5,6,7,8,9] 10;refine q73 (by unfold wf64; decide) h hb6 hl6 ?_
 cases hr2:q22 256 s6 with
 | error e=>
  rw [hr2] at k;exact fun H' he h=>k Q _ he (Sub.refl Q) (h.o [2] 9)
 | ok q=>
 obtain⟨m,s7⟩:=q;rw [hr2] at k;dsimp only at k;have hm:0≤m∧m≤256:=by
  rw [(q4c hr2).2.1];unfold cRes
  split
  ·dsimp only; omega
  ·split
   ·split
    ·dsimp only; omega
    ·dsimp only; omega
   ·dsimp only; omega
   ·dsimp only; omega
 intro H5 he7 hb7 hl7 h;refine⟨_,rfl,?_⟩;have hg:qwm c.hold (⟨next,c.hold,[]⟩:HS Pv):=⟨⟨hp2.1,hp2.2.2.1,hp2.2.2.2,⟨by simp [q3w],fun p hp=>absurd hp (by simp)⟩⟩,rfl,hp2.2.1,fun p hp=>absurd hp (by simp)⟩
 refine qwn (fl:=fl) (r:=s7) (m:=m) (hs:=⟨next,c.hold,[]⟩) (ck:=⟨c.rho,c.trust,hd,streak,l⟩) (last:=last) (cb:=cb) hg ha h18 hm hb7 hl7 he7 ?_ k ?_
 ·cases q4r ⟨next,c.hold,[]⟩ m.toNat s7 with
  | error e=>rfl
  | ok q=>rfl
 ·have h:=h.o [3,0,1,4,2,5,6,7,8,9] 10;rw [hrho,hle] at h;exact h
end
open Go.Nm
section
variable {F L:List Assn} {H:Heap} {K KP:Value→Heap→Prop} {Q Q':Assn} {sb:Nat} {s:Sta}
set_option maxHeartbeats 8000000 in
theorem qwp {rb b b1 fb nb tm cb hb0:Nat}{a:Nat}{cs:List Value}{sts:List (Option Str)}{fl:Fl}{ck0:Ck}{c:Cfg}{last:Int}{r:RS}
  (ok:qbk c) (hrho:ck0.rho=c.rho) (hle:ck0.least=c.trust) (ha:a < sts.length) (h18:lget cs 18=some (.map (some tm))) (h8:lget cs 8=some (I64 c.hold)) (hbb:q04 r.bs) (hl0:r.bs.length≤1099511627776)
  (k:APost rb sb tm cs sts a Q F K KP (withFl fl (qku c last r)))
  (h:SatL H (crdA rb r::ckA cb ck0::Q::cellsA nb [PA cb 0,PA hb0 0,I64 last] 149::cellsA fb (encF fl) 80::cellsA b1 [I64 0,.bool false,.bool false,.bool false] 80::cellsA b [PA rb 0] 109::cellsA sb cs 115::strmA Q tm sts::F)) :
  q40.r3 sb 0 (a:Int) K KP b b1 fb 0 (some ⟨nb,0,none⟩) H:=by
 unfold qku at k;unfold q40.r3;refine⟨_,h.q 6,_,h.q 6,?_⟩;refine q71 h hbb hl0 ?_
 cases hr:numR r with
 | error e=>
  rw [hr] at k;exact fun H' he h=>k Q _ he (Sub.refl Q) (h.o [1] 8)
 | ok q=>
 obtain⟨hd,s2⟩:=q;rw [hr] at k;dsimp only at k;intro H1 he2 hb2 hl2 h;refine⟨_,rfl,h.q 6,?_⟩;refine q1x h hb2 hl2 ?_
 cases hr2:q1h s2 with
 | error e=>
  rw [hr2] at k;exact fun H' he h=>k Q _ he (Sub.refl Q) (h.o [1] 8)
 | ok q=>
 obtain⟨streak,s3⟩:=q;rw [hr2] at k;dsimp only at k;intro H2 he3 hb3 hl3 h;refine⟨_,rfl,_,h.q 6,?_⟩;refine q73 (by unfold wf64; decide) h hb3 hl3 ?_
 cases hr3:q22 8 s3 with
 | error e=>
  rw [hr3] at k;exact fun H' he h=>k Q _ he (Sub.refl Q) (h.o [1] 8)
 | ok q=>
 obtain⟨n,s4⟩:=q;rw [hr3] at k;dsimp only at k;have hn8:0≤n∧n≤8:=by
  rw [(q4c hr3).2.1];exact z6v s3
 intro H3 he4 hb4 hl4 h;refine⟨_,rfl,?_⟩;refine⟨fun la ln lc i H'=>∃(j:Nat) (l:List Smp) (s5:RS),i=j∧(j:Int)≤n∧ln=l.length∧qak j s4=.ok (l,s5)∧q04 s5.bs∧s5.bs.length≤1099511627776∧
  SatL H' (ckA cb ck0::slA 43 4 la l.length lc (flat q4t l)::Q::crdA rb s5::cellsA nb [PA cb 0,PA hb0 0,I64 last] 149::cellsA fb (encF fl) 80::cellsA b1 [I64 0,.bool false,.bool false,.bool false] 80::cellsA b [PA rb 0] 109::cellsA sb cs 115::strmA Q tm sts::F),
  fun _ _ _ i _=>n.toNat - i.toNat,⟨0,[],s4,rfl,hn8.1,rfl,rfl,hb4,hl4,(h.sl_nil 43 4).o [2,0,3,1,4,5,6,7,8,9] 10⟩,?_⟩
 rintro la ln lc i H4 ⟨j,l,s5,rfl,hj,rfl,hls,hb5,hl5,h⟩;have hll:=qsv hls;refine⟨fun hc=>?_,fun hc=>?_⟩
 ·have hc:=z8s hc;have hsn:qak (j+1) s4=match smpR s5 with|.error e=>.error e|.ok (x,s2)=>.ok (l++[x],s2):=by
   rw [qak,hls] <;> rfl
  have bad:∀e Q' H',smpR s5=.error e→e≠0→Sub Q Q'→SatL H' (Q'::F)→KP (pnV e) H':=by
   intro e Q' H' hse he hs h;rw [hse] at hsn;rw [qsw hsn (by omega)] at k;exact k Q' H' he hs h
  unfold smpR at bad hsn;refine⟨_,h.q 7,_,h.q 7,_,h.q 7,_,h.q 7,?_⟩;have h:=h.o [3,0,1,2,4,5,6,7,8,9] 10;refine q1x h hb5 hl5 ?_
  cases q1:q1h s5 with
  | error e=>
   rw [q1] at bad;exact fun H' he h=>bad _ Q _ rfl he (Sub.refl Q) (h.o [2] 9)
  | ok q=>
  obtain⟨x1,s6⟩:=q;rw [q1] at bad hsn;dsimp only at bad hsn;intro H5 he6 hb6 hl6 h;refine⟨_,rfl,h.q 7,h.q 7,h.q 7,?_⟩;refine q1x h hb6 hl6 ?_
  cases q2:q1h s6 with
  | error e=>
   rw [q2] at bad;exact fun H' he h=>bad _ Q _ rfl he (Sub.refl Q) (h.o [2] 9)
  | ok q=>
  obtain⟨x2,s7⟩:=q;rw [q2] at bad hsn;dsimp only at bad hsn;intro H6 he7 hb7 hl7 h;refine⟨_,rfl,h.q 7,h.q 7,?_⟩;refine q1x h hb7 hl7 ?_
  cases q3:q1h s7 with
  | error e=>
   rw [q3] at bad;exact fun H' he h=>bad _ Q _ rfl he (Sub.refl Q) (h.o [2] 9)
  | ok q=>
  obtain⟨x3,s8⟩:=q;rw [q3] at bad hsn;dsimp only at bad hsn;intro H7 he8 hb8 hl8 h;refine⟨_,rfl,h.q 7,?_⟩;refine q1x h hb8 hl8 ?_
  cases q4:q1h s8 with
  | error e=>
   rw [q4] at bad;exact fun H' he h=>bad _ Q _ rfl he (Sub.refl Q) (h.o [2] 9)
  | ok q=>
  obtain⟨x4,s9⟩:=q;rw [q4] at bad hsn;dsimp only at bad hsn;intro H8 he9 hb9 hl9 h;refine⟨_,rfl,?_⟩;refine h.al fun b2 _ h=>?_
  refine h.append (m:=1) (ws:=q4t ⟨x1,x2,x3,x4⟩) z6b 3 rfl (h.ce_rd 0 rfl) rfl (qcd _) (by omega) (by omega) fun a5 c5 H9 h=>⟨_,_,_,rfl,?_⟩
  rw [w64 (x:=(j:Int)+1)];refine⟨⟨j+1,l++[⟨x1,x2,x3,x4⟩],s9,by omega,by omega,by rw [z8t]; rfl,hsn,hb9,hl9,?_⟩,by dsimp only; omega⟩;have e:flat q4t (l++[⟨x1,x2,x3,x4⟩])=flat q4t l++q4t ⟨x1,x2,x3,x4⟩:=by rw [q0k]; simp [flat]
  rw [e,z8t];exact h.o [2,3,4,1,5,6,7,8,9,10] 11
 ·have hge:=z8v hc;have hjn:j=n.toNat:=by omega
  subst hjn;rw [hls] at k;dsimp only at k;exact qwo (fl:=fl) (ck0:=ck0) (hb0:=hb0) ok hrho hle ha h18 h8 hb5 hl5 k h
end
end Go.Proofs.YtfmkddccnjidmaaGreatDoor
namespace Go.Nm
def agtR (s:Sta)(a:Int):Rd (List En × Fl × Str):=fun r=>match q1h r with
 | .error e=>.error e
 | .ok (ep,s1)=>match q1h s1 with
  | .error e=>.error e
  | .ok (bt,s2)=>match q1h s2 with
   | .error e=>.error e
   | .ok (tm,s3)=>if (setR s.cfg.agents s.rows a ⟨ep,bt,tm⟩).2≠0 then .error (setR s.cfg.agents s.rows a ⟨ep,bt,tm⟩).2 else match upR s.now s3 with
    | .error e=>.error e
    | .ok (t,s4)=>match flR s.cfg t s4 with
     | .error e=>.error e
     | .ok (x,s5)=>.ok (((setR s.cfg.agents s.rows a ⟨ep,bt,tm⟩).1,x.1,x.2),s5)
theorem qsx {most:Int}{rows:List En}{a:Int}{e:En}(h:(setR most rows a e).2=0):0≤a∧a≤63∧1≤e.epoch∧(setR most rows a e).1=rows.set a.toNat e∧¬0 < (rowE rows a).epoch:=by
 unfold setR at h ⊢
 split at h
 ·simp at h
 rename_i h1;rw [if_neg h1]
 split at h
 ·simp at h
 rename_i h2;rw [if_neg h2]
 split at h
 ·simp at h
 rename_i h3;rw [if_neg h3];unfold bad at h1;exact⟨by omega,by omega,by omega,rfl,h2⟩
end Go.Nm
namespace Go.Proofs.YtfmkddccnjidmaaGreatDoor
open Go.Nm
section
variable {F L:List Assn} {H:Heap} {K KP:Value→Heap→Prop} {Q Q':Assn} {sb:Nat} {s:Sta}
set_option maxHeartbeats 8000000 in
theorem z7s {rb b b1 fb:Nat}{a:Nat}{p:SAd}{t r3:Int}{r:RS}
  (ok:qbk s.cfg) (ha:a < s.sts.length) (hbb:q04 r.bs) (hl0:r.bs.length≤1099511627776)
  (k:APost rb sb p.tm (q3g s p) s.sts a Q F K KP (flR s.cfg t r))
  (h:SatL H (crdA rb r::Q::cellsA fb [I64 t,.bool false,.bool false,.bool false] 80::cellsA b1 [I64 0,.bool false,.bool false,.bool false] 80::cellsA b [PA rb 0] 109::cellsA sb (q3g s p) 115::strmA Q p.tm s.sts::F)) :
  q40.r4 sb 0 (a:Int) K KP b b1 r3 fb 0 H:=by
 unfold flR at k;unfold q40.r4;refine⟨_,h.q 4,?_⟩;refine q71 h hbb hl0 ?_
 cases hr:numR r with
 | error e=>
  rw [hr] at k;exact fun H' he h=>k Q _ he (Sub.refl Q) (h.o [0] 6)
 | ok q=>
 obtain⟨v,s1⟩:=q;rw [hr] at k;dsimp only at k;intro H1 he1 hb1 hl1 h;refine⟨_,rfl,?_⟩;refine h.st 2 rfl rfl ?_;intro H2 h;refine h.st 2 rfl rfl ?_;intro H3 h;refine h.st 2 rfl rfl ?_;intro H4 h;have h:=h.o [5,0,1,2,3,4,6] 7;refine qmc (Q:=Q) ok h fun nb H5 h=>⟨_,rfl,?_⟩
 obtain⟨cb,hb0,h⟩:=q1c.1 h;refine⟨_,h.q 8,?_⟩;have h:=h.o [4,0,1,2,3,5,6,7,8,9] 10;refine q72 h hb1 hl1 ?_;unfold strR at k
 cases hr2:q70 s1 with
 | error e=>
  rw [hr2] at k;exact fun H' he h=>k Q _ he (Sub.refl Q) (h.o [4] 9)
 | ok q=>
 obtain⟨last,s2⟩:=q;rw [hr2] at k;dsimp only at k;intro H6 he2 hb2 hl2 h;refine⟨_,rfl,q01 ?_⟩;refine h.st 1 rfl rfl ?_;intro H7 h;refine q01 ⟨_,h.r 1,_,q2t,?_⟩;intro Jn1 hJ1;refine⟨fun hc=>?_,fun hc=>hJ1 _ ?_⟩
 ·rw [if_pos (by rw [z9a] at hc; exact hc)] at k;exact k Q _ (by decide) (Sub.refl Q) (h.o [5] 10)
 ·rw [if_neg (by rw [z9u] at hc; rw [hc]; simp)] at k;refine qwp (fl:=⟨t,bitF v 1,bitF v 2,bitF v 4⟩) (ck0:=(q95 s.cfg).ck) (hb0:=hb0) (c:=s.cfg) (last:=last) (cb:=cb) ok rfl rfl ha rfl rfl hb2 hl2 ?_ (h.o [0,2,5,1,6,7,8,4,9] 10)
  cases hq:qku s.cfg last s2 with
  | error e=>rw [hq] at k; exact k
  | ok q=>rw [hq] at k; exact k
def BPost (rb sb:Nat)(s:Sta)(p:SAd)(a:Int)(Q:Assn)(F:List Assn)(K KP:Value→Heap→Prop):Except Int ((List En × Fl × Str) × RS)→Prop
 | .ok (x,r)=>∀Q' H',Sub Q Q'→r.e=0→q04 r.bs→r.bs.length≤1099511627776→SatL H' (Q'::crdA rb r::cellsA sb (q3g s p) 115::strmA Q' p.tm (s.sts.set a.toNat (some x.2.2))::Ro.rollC p.rb p.rm s.cfg.agents::Ro.mapE p.rm x.1::F)→K (aggF x.2.1) H'
 | .error e=>∀Q' H',e≠0→Sub Q Q'→SatL H' (Q'::F)→KP (pnV e) H'
set_option maxHeartbeats 8000000 in
theorem qsy {rb:Nat}{p:SAd}{a:Int}{r:RS}(ok:qbk s.cfg)(rok:q39 s.rows)(hlen:s.sts.length=64)(hbb:q04 r.bs)(hl0:r.bs.length≤1099511627776)
  (k:BPost rb sb s p a Q F K KP (agtR s a r))
  (h:SatL H (crdA rb r::Q::cellsA sb (q3g s p) 115::Ro.rollC p.rb p.rm s.cfg.agents::Ro.mapE p.rm s.rows::strmA Q p.tm s.sts::F)) :
  CP 44 #[.agg #[PA rb 0],PA sb 0,I64 a] H K KP:=by
 refine z11 ?_;unfold agtR at k;refine h.al fun b _ h=>?_
 refine h.al fun b1 _ h=>⟨_,h.r 4,_,h.q 1,_,h.q 1,_,h.q 1,?_⟩
 have h:=h.o [2,0,1,3,4,5,6,7] 8;refine q1x h hbb hl0 ?_
 cases q1:q1h r with
 | error e=>
  rw [q1] at k;exact fun H' he h=>k Q _ he (Sub.refl Q) (h.o [2] 7)
 | ok q=>
 obtain⟨ep,s1⟩:=q;rw [q1] at k;dsimp only at k;intro H1 he1 hb1 hl1 h;refine⟨_,rfl,h.q 2,h.q 2,h.r 4,?_⟩;refine q1x h hb1 hl1 ?_
 cases q2:q1h s1 with
 | error e=>
  rw [q2] at k;exact fun H' he h=>k Q _ he (Sub.refl Q) (h.o [2] 7)
 | ok q=>
 obtain⟨bt,s2⟩:=q;rw [q2] at k;dsimp only at k;intro H2 he2 hb2 hl2 h;refine⟨_,rfl,h.q 2,h.r 4,?_⟩;refine q1x h hb2 hl2 ?_
 cases q3:q1h s2 with
 | error e=>
  rw [q3] at k;exact fun H' he h=>k Q _ he (Sub.refl Q) (h.o [2] 7)
 | ok q=>
 obtain⟨tm,s3⟩:=q;rw [q3] at k;dsimp only at k;intro H3 he3 hb3 hl3 h;refine⟨_,rfl,h.r 4,?_⟩;have h:=h.o [5,6,0,1,2,3,4,7] 8;refine Ro.Set_spec rok (agent:=a) (x:=⟨ep,bt,tm⟩) h fun H4 h=>⟨_,rfl,?_⟩
 have hsg:=qsx (most:=s.cfg.agents) (rows:=s.rows) (a:=a) (e:=⟨ep,bt,tm⟩);generalize setR s.cfg.agents s.rows a ⟨ep,bt,tm⟩=G at *;refine q1i (fun he=>⟨rfl,?_⟩) fun he=>?_
 ·rw [if_neg (by simpa using he)] at k;obtain⟨g1,g2,-⟩:=hsg he;have hag:((a.toNat:Nat):Int)=a:=by omega
  intro Jn hJ;have main:∀(t:Int) (s4:RS) fb H',upR s.now s3=.ok (t,s4)→q04 s4.bs→s4.bs.length≤1099511627776→
    SatL H' (crdA rb s4::Q::cellsA fb [I64 t,.bool false,.bool false,.bool false] 80::cellsA b1 [I64 0,.bool false,.bool false,.bool false] 80::cellsA b [PA rb 0] 109::cellsA sb (q3g s p) 115::strmA Q p.tm s.sts::Ro.rollC p.rb p.rm s.cfg.agents::Ro.mapE p.rm G.1::F)→Jn fb 0 H':=by
   intro t s4 fb H5 hu hb4 hl4 h;rw [hu] at k;dsimp only at k;refine hJ _ _ _ ?_;have:=z7s (a:=a.toNat) (t:=t) (r3:=0) ok (by omega) hb4 hl4 (K:=K) (KP:=KP) ?_ h
   ·rw [hag] at this;rw [he];exact this
   ·cases hq:flR s.cfg t s4 with
    | error e=>
     rw [hq] at k;exact fun Q' H' he hs h=>k Q' H' he hs (h.o [0] 3)
    | ok q=>
     rw [hq] at k;exact fun Q' H' hs he hb hl h=>k Q' H' hs he hb hl h
  refine⟨_,h.q 4,_,h.r 6,?_,?_⟩
  ·have h:=h.o [2,0,1,3,4,5,6,7] 8;refine q87 h hb3 hl3 ?_
   cases hu:upR s.now s3 with
   | error e=>
    rw [hu] at k;exact fun H' he h=>k Q _ he (Sub.refl Q) (h.o [4] 7)
   | ok q=>
   obtain⟨t,s4⟩:=q;intro H5 he4 hb4 hl4 h;refine⟨_,rfl,?_⟩;refine h.al fun b3 _ h=>?_
   refine h.st 0 rfl rfl ?_;intro H6 h;exact main t s4 b3 H6 hu hb4 hl4 (h.o [1,6,0,4,5,7,8,2,3] 9)
  ·refine h.al fun b4 _ h=>⟨h.r 7,h.q 5,?_⟩
   have h:=h.o [3,0,1,2,4,5,6,7,8] 9;refine q87 h hb3 hl3 ?_
   cases hu:upR s.now s3 with
   | error e=>
    rw [hu] at k;exact fun H' he h=>k Q _ he (Sub.refl Q) (h.o [5] 8)
   | ok q=>
   obtain⟨t,s4⟩:=q;intro H5 he4 hb4 hl4 h;refine⟨_,rfl,?_⟩;refine h.st 1 rfl rfl ?_;intro H6 h;exact main t s4 b4 H6 hu hb4 hl4 (h.o [0,6,1,4,5,7,8,2,3] 9)
 ·rw [if_pos he] at k;exact k Q _ he (Sub.refl Q) (h.o [5] 8)
end
end Go.Proofs.YtfmkddccnjidmaaGreatDoor
namespace Go.Nm
structure PAg where
 rows:List En
 sts:List (Option Str)
 fls:FM
def agsR (s0:Sta):Nat→Rd PAg
 | 0,r=>.ok (⟨s0.rows,s0.sts,[]⟩,r)
 | n+1,r=>match agsR s0 n r with
  | .error e=>.error e
  | .ok (x,r1)=>match q1h r1 with
   | .error e=>.error e
   | .ok (a,r2)=>match agtR { s0 with rows:=x.rows,sts:=x.sts } a r2 with
    | .error e=>.error e
    | .ok (y,r3)=>.ok (⟨y.1,x.sts.set a.toNat (some y.2.2),mset a y.2.1 x.fls⟩,r3)
def q5f (most:Int):Nat→Rd CM
 | 0,r=>.ok ([],r)
 | n+1,r=>match q5f most n r with
  | .error e=>.error e
  | .ok (m,r1)=>match q9e r1 with
   | .error e=>.error e
   | .ok (o,r2)=>if (setS most m o.1 o.2).2≠0 then .error (setS most m o.1 o.2).2 else .ok ((setS most m o.1 o.2).1,r2)
def q4e:Nat→Rd (List Ot)
 | 0,r=>.ok ([],r)
 | n+1,r=>match q4e n r with
  | .error e=>.error e
  | .ok (l,r1)=>match q9e r1 with
   | .error e=>.error e
   | .ok (o,r2)=>.ok (l++[o],r2)
def q7l (c:Cfg)(bs:List Int):Except Int Sta:=match upR 4611686018427387903 ⟨0,bs⟩ with
 | .error e=>.error e
 | .ok (now,r1)=>match upR 1099511627776 r1 with
  | .error e=>.error e
  | .ok (boots,r2)=>match upR 1099511627776 r2 with
   | .error e=>.error e
   | .ok (sunk,r3)=>match upR now r3 with
    | .error e=>.error e
    | .ok (moment,r4)=>match q70 r4 with
     | .error e=>.error e
     | .ok (value,r5)=>match q22 64 r5 with
      | .error e=>.error e
      | .ok (n,r6)=>match agsR { newS c with now:=now,boots:=boots,sunk:=sunk } n.toNat r6 with
       | .error e=>.error e
       | .ok (x,r7)=>if ¬(moment - c.lag≤value∧value≤moment) then .error 11 else match q22 1024 r7 with
        | .error e=>.error e
        | .ok (m,r8)=>match q5f c.cells m.toNat r8 with
         | .error e=>.error e
         | .ok (cm,r9)=>match numR r9 with
          | .error e=>.error e
          | .ok (k,r10)=>match q4e k.toNat r10 with
           | .error e=>.error e
           | .ok (kept,r11)=>if (q21 r11).e≠0 then .error (q21 r11).e else
            .ok ⟨c,now,boots,sunk,x.rows,⟨c.lag,moment,value,x.fls⟩,cm,x.sts,kept⟩
def qge (c:Cfg)(bs:List Int):Except Int Sta:=if cfgR c=false then .error 11 else match q7l c bs with
 | .error _=>.error 10
 | .ok s=>if stB s=bs then .ok s else .error 10
end Go.Nm
namespace Go.Proofs.YtfmkddccnjidmaaGreatDoor
open Go.Nm
section
variable {F L:List Assn} {H:Heap} {K KP:Value→Heap→Prop} {Q Q':Assn} {sb:Nat} {s:Sta}
theorem MSet_err {ms:MS}{mb rb ab:Nat}{now value:Int}(hn:isT now)(hl:1≤ms.lag∧ms.lag≤1099511627776)(hv:¬(now - ms.lag≤value∧value≤now))(h:SatL H (Ma.markC mb rb ms::F))(k:K (I64 11) H) :
  CF 46 #[PA mb 0,I64 now,I64 value,.map (some ab)] H K:=by
 refine qlj ?_;have e1:i64.wrap (now - ms.lag)=now - ms.lag:=w64;refine⟨_,Ma.isTime_spec,fun _=>trivial,_,fun _=>h.r 0,?_⟩
 dsimp only;rw [e1,z9b hn];refine⟨fun _=>k,fun hf=>?_⟩
 simp only [Bool.not_true,Bool.false_or,z94,z8x] at hf;exact absurd ⟨by omega,by omega⟩ hv
theorem qwq (h:SatL H (stA Q sb s::F))(k:∀hb c0 H',(∃p:SAd,p.hb=hb∧SatL H' (cellsA c0 [PA hb 0] 112::cellsA sb (q3g s p) 115::Ro.rollC p.rb p.rm s.cfg.agents::Ro.mapE p.rm s.rows::Ma.markC p.mb p.mm s.ms::Ma.mapF p.mm s.ms.m::shC p.hb p.hm s.cfg.cells::mapC p.hm s.cm::strmA Q p.tm s.sts::slA 64 74 p.ka s.kept.length p.kc (flat encO s.kept)::F))→K (.func (.func 127) #[] #[PA c0 0]) H') :
  CF 21 #[PA sb 0] H K:=by
 obtain⟨p,h⟩:=q0i.1 h;refine z18 ?_;refine⟨_,h.r 0,?_⟩;refine qf9 h fun c0 H' h=>⟨_,_,rfl,?_⟩
 exact k p.hb c0 H' ⟨p,rfl,h⟩
end
end Go.Proofs.YtfmkddccnjidmaaGreatDoor
namespace Go.Nm
structure AgsOk (s0:Sta)(x:PAg):Prop where
 rows:q39 x.rows
 len:x.sts.length=64
 sts:∀st,some st∈x.sts→qgt s0.cfg st
 reg:∀k:Nat,(∃st:Str,x.sts[k]?=some (some st))↔∃e:En,x.rows[k]?=some e∧0 < e.epoch
 fls:∀p∈x.fls,isAg p.1∧isT p.2.t∧p.2.t≤s0.now
 nd:(q00 x.fls).Nodup
theorem z7t {x a b:Int}(h:inM x a b=true):a≤x∧x≤b:=by
 simp only [inM,z8w,z8u] at h; exact h
theorem qec {m v:Int}{s s':RS}(h:upR m s=.ok (v,s')):0≤v∧v≤m:=by
 unfold upR at h
 cases e:q1h s with
 | error e'=>rw [e] at h; cases h
 | ok q=>
  obtain⟨u,s1⟩:=q;rw [e] at h;dsimp only at h
  split at h
  ·rename_i h0
   cases h
   exact z7t h0
  ·cases h
theorem longR_wf {v:Int}{s s':RS}(h:q1h s=.ok (v,s')):wf64 v:=by
 rw [(q4c h).2.1]; exact i64in _
theorem strR_ok {c:Cfg}{s s':RS}{st:Str}(ok:qbk c)(h:strR c s=.ok (st,s')):qgt c st:=by
 unfold strR at h
 cases h1:q70 s with
 | error e=>rw [h1] at h; cases h
 | ok q=>
 obtain⟨last,s1⟩:=q;rw [h1] at h;dsimp only at h
 split at h
 ·cases h
 rename_i hin;have hin:=z7t (by simpa using hin);unfold qku at h
 cases h2:numR s1 with
 | error e=>rw [h2] at h; cases h
 | ok q=>
 obtain⟨hd,s2⟩:=q;rw [h2] at h;dsimp only at h
 cases h3:q1h s2 with
 | error e=>rw [h3] at h; cases h
 | ok q=>
 obtain⟨streak,s3⟩:=q;have hsw:=longR_wf h3;rw [h3] at h;dsimp only at h
 cases h4:q22 8 s3 with
 | error e=>rw [h4] at h; cases h
 | ok q=>
 obtain⟨n,s4⟩:=q;rw [h4] at h;dsimp only at h
 cases h5:qak n.toNat s4 with
 | error e=>rw [h5] at h; cases h
 | ok q=>
 obtain⟨l,s5⟩:=q;rw [h5] at h;dsimp only at h;unfold qp0 at h
 split at h
 ·cases h
 rename_i hl;have hl:=Decidable.not_not.1 hl
 cases h6:q1h s5 with
 | error e=>rw [h6] at h; cases h
 | ok q=>
 obtain⟨next,s6⟩:=q;rw [h6] at h;dsimp only at h
 split at h
 ·cases h
 rename_i hn
 cases h7:q22 256 s6 with
 | error e=>rw [h7] at h; cases h
 | ok q=>
 obtain⟨m,s7⟩:=q;rw [h7] at h;dsimp only at h;have hg0:qwm c.hold (⟨next,c.hold,[]⟩:HS Pv):=⟨⟨by show 0≤next; omega,ok.hd.1,ok.hd.2,⟨by simp [q3w],fun p hp=>absurd hp (by simp)⟩⟩,rfl,by show next≤_; omega,fun p hp=>absurd hp (by simp)⟩
 cases h8:q4r ⟨next,c.hold,[]⟩ m.toNat s7 with
 | error e=>rw [h8] at h; cases h
 | ok q=>
 obtain⟨hs,s8⟩:=q;rw [h8] at h
 cases h
 have g:=qcp hg0 h8;unfold wf64 at hsw;exact⟨⟨hl.1,hl.2.2,hl.2.1,hsw.2⟩,rfl,rfl,g.ok,g.most,g.next,g.rows,hin⟩
theorem agtR_ok {s0:Sta}{x:PAg}{a:Int}{r r':RS}{y:List En × Fl × Str}(ok:qbk s0.cfg)(hnow:isT s0.now)(g:AgsOk s0 x)(h:agtR { s0 with rows:=x.rows,sts:=x.sts } a r=.ok (y,r')) :
  AgsOk s0 ⟨y.1,x.sts.set a.toNat (some y.2.2),mset a y.2.1 x.fls⟩:=by
 unfold agtR at h
 cases h1:q1h r with
 | error e=>rw [h1] at h; cases h
 | ok q=>
 obtain⟨ep,s1⟩:=q;rw [h1] at h;dsimp only at h
 cases h2:q1h s1 with
 | error e=>rw [h2] at h; cases h
 | ok q=>
 obtain⟨bt,s2⟩:=q;rw [h2] at h;dsimp only at h
 cases h3:q1h s2 with
 | error e=>rw [h3] at h; cases h
 | ok q=>
 obtain⟨tm,s3⟩:=q;rw [h3] at h;dsimp only at h
 split at h
 ·cases h
 rename_i hs;have hs:(setR s0.cfg.agents x.rows a ⟨ep,bt,tm⟩).2=0:=by simpa using hs
 obtain⟨a1,a2,a3,a4,a5⟩:=qsx hs;have hrok:=Go.Nm.setR_ok (most:=s0.cfg.agents) g.rows a ⟨ep,bt,tm⟩
 cases h4:upR s0.now s3 with
 | error e=>rw [h4] at h; cases h
 | ok q=>
 obtain⟨t,s4⟩:=q;have ht:=qec h4;rw [h4] at h;dsimp only at h
 cases h5:flR s0.cfg t s4 with
 | error e=>rw [h5] at h; cases h
 | ok q=>
 obtain⟨⟨fl,st⟩,s5⟩:=q;rw [h5] at h
 cases h
 unfold flR at h5
 cases h6:numR s4 with
 | error e=>rw [h6] at h5; cases h5
 | ok q=>
 obtain⟨v,s6⟩:=q;rw [h6] at h5;dsimp only at h5
 cases h7:strR s0.cfg s6 with
 | error e=>rw [h7] at h5; cases h5
 | ok q=>
 obtain⟨st',s7⟩:=q;rw [h7] at h5
 cases h5
 have hst:=strR_ok ok h7;have hlt:a.toNat < x.sts.length:=by rw [g.len]; omega
 have hltr:a.toNat < x.rows.length:=by rw [g.rows.len]; omega
 refine⟨hrok,by show (x.sts.set _ _).length=64; rw [List.length_set,g.len],fun z hz=>?_,fun j=>?_,fun p hp=>?_,q6a g.nd⟩
 ·rcases zbe hz with hz|hz
  ·exact g.sts z hz
  ·cases hz; exact hst
 ·dsimp only;rw [a4]
  by_cases e:j=a.toNat
  ·subst e;rw [List.getElem?_set_self hlt,List.getElem?_set_self hltr];exact⟨fun _=>⟨_,rfl,by show 0 < ep; dsimp only at a3; omega⟩,fun _=>⟨_,rfl⟩⟩
  ·rw [List.getElem?_set_ne (by omega),List.getElem?_set_ne (by omega)];exact g.reg j
 ·rcases q3z hp with rfl|hp
  ·have h0:=hnow.2;exact⟨⟨by show 0≤a; omega,by show a < 64; omega⟩,⟨ht.1,by show t≤_; omega⟩,ht.2⟩
  ·exact g.fls p hp
theorem qwr {s0:Sta}(ok:q25 s0):∀{n:Nat} {r r':RS} {x:PAg},agsR s0 n r=.ok (x,r')→AgsOk s0 x
 | 0,r,r',x,h=>by
  cases h
  exact⟨ok.rows,ok.len,ok.sts,ok.reg,fun p hp=>absurd hp (by simp),by simp⟩
 | n+1,r,r',x,h=>by
  unfold agsR at h
  cases h1:agsR s0 n r with
  | error e=>rw [h1] at h; cases h
  | ok q=>
  obtain⟨x1,r1⟩:=q;rw [h1] at h;dsimp only at h
  cases h2:q1h r1 with
  | error e=>rw [h2] at h; cases h
  | ok q=>
  obtain⟨a,r2⟩:=q;rw [h2] at h;dsimp only at h
  cases h3:agtR { s0 with rows:=x1.rows,sts:=x1.sts } a r2 with
  | error e=>rw [h3] at h; cases h
  | ok q=>
  obtain⟨y,r3⟩:=q;rw [h3] at h
  cases h
  exact agtR_ok ok.cfg ok.now (qwr ok h1) h3
theorem iRes_b {s:RS}(hb:q04 s.bs):q04 (iRes s).2.bs:=q0v hb
theorem qp1 {s s':RS}{o:Ot}(hb:q04 s.bs)(h:q9e s=.ok (o,s')):WC o.2∧q3e o.2=true∧(0≤o.1.win∧o.1.win≤4611686018427387903)∧q04 s'.bs:=by
 unfold q9e at h
 cases e:q70 s with
 | error e'=>rw [e] at h; cases h
 | ok q=>
  obtain⟨w,s1⟩:=q;rw [e] at h;dsimp only at h;have hb1:q04 s1.bs:=by rw [(q4c e).1]; exact iRes_b hb
  have t1:=q2n (m:=s1.bs.length) hb1;have t2:=q2n (m:=(tRes s1.bs.length s1).2.bs.length) t1.1
  split at h
  ·cases h
  split at h
  ·cases h
  rename_i hx
  split at h
  ·cases h
  rename_i hc
  cases h
  have hx:(!(q6z (strB (tRes s1.bs.length s1).1)).2.2 || !inM w 0 4611686018427387903)=false:=by simpa only [zbd] using hx
  rw [z94,z9u] at hx;exact⟨z79 t2.2,qse (by simpa using hc),z7t (by simpa only [z9u] using hx.2),t2.1⟩
structure CelOk (most:Int)(m:CM):Prop where
 sh:ShOk most m
 win:∀p∈m,0≤p.1.win∧p.1.win≤4611686018427387903
theorem qhd {most:Int}(h0:ShOk most []):∀{n:Nat} {r r':RS} {m:CM},q04 r.bs→q5f most n r=.ok (m,r')→CelOk most m∧q04 r'.bs
 | 0,r,r',m,hb,h=>by
  cases h
  exact⟨⟨h0,fun p hp=>absurd hp (by simp)⟩,hb⟩
 | n+1,r,r',m,hb,h=>by
  unfold q5f at h
  cases h1:q5f most n r with
  | error e=>rw [h1] at h; cases h
  | ok q=>
  obtain⟨m1,r1⟩:=q;rw [h1] at h;dsimp only at h;have ih:=qhd h0 hb h1
  cases h2:q9e r1 with
  | error e=>rw [h2] at h; cases h
  | ok q=>
  obtain⟨o,r2⟩:=q;rw [h2] at h;dsimp only at h;have ho:=qp1 ih.2 h2
  split at h
  ·cases h
  rename_i hs
  cases h
  refine⟨⟨setS_ok ih.1.sh ho.1 (by unfold wf64; omega),fun p hp=>?_⟩,ho.2.2.2⟩
  unfold setS at hp
  split at hp
  ·exact ih.1.win p hp
  split at hp
  ·exact ih.1.win p hp
  split at hp
  ·exact ih.1.win p hp
  rcases q3z hp with rfl|hp
  ·exact ho.2.2.1
  ·exact ih.1.win p hp
theorem qhe:∀{n:Nat} {r r':RS} {l:List Ot},q04 r.bs→q4e n r=.ok (l,r')→(∀o∈l,WC o.2)∧q04 r'.bs
 | 0,r,r',l,hb,h=>by
  cases h
  exact⟨fun o ho=>absurd ho (by simp),hb⟩
 | n+1,r,r',l,hb,h=>by
  unfold q4e at h
  cases h1:q4e n r with
  | error e=>rw [h1] at h; cases h
  | ok q=>
  obtain⟨l1,r1⟩:=q;rw [h1] at h;dsimp only at h;have ih:=qhe hb h1
  cases h2:q9e r1 with
  | error e=>rw [h2] at h; cases h
  | ok q=>
  obtain⟨o,r2⟩:=q;rw [h2] at h
  cases h
  have ho:=qp1 ih.2 h2;refine⟨fun x hx=>?_,ho.2.2.2⟩
  rcases za4.1 hx with hx|hx
  ·exact ih.1 x hx
  ·rw [z9q] at hx; rw [hx]; exact ho.1
end Go.Nm
namespace Go.Proofs.YtfmkddccnjidmaaGreatDoor
open Go.Nm
section
variable {F L:List Assn} {H:Heap} {K KP:Value→Heap→Prop} {Q Q':Assn} {sb:Nat} {s:Sta}
theorem qsz {b1 b2:Nat}{e v1:Int}{v:Option Addr}{KQ:FrameMode→Heap→Prop}(he:e≠0)(h:SatL H (cellsA b1 [.pointer v] 27::cellsA b2 [I64 v1] 28::F))
  (k:∀H',SatL H' (cellsA b1 [.pointer none] 27::cellsA b2 [I64 10] 28::F)→KQ (panM (pnV e) true) H'):DefQ Tryz.prog 37 [(PA b1 0),(PA b2 0)] (panM (pnV e) false) H KQ:=by
 have hd:DefQ Tryz.prog 37 [(PA b1 0),(PA b2 0)] (panM (pnV e) false) H fun u'' H'=>u''=panM (pnV e) true∧SatL H' (cellsA b1 [.pointer none] 27::cellsA b2 [I64 10] 28::F):=by
  refine q4a.defq (.inr ⟨rfl,rfl⟩) ?_;unfold q4a.code;refine qjk ⟨_,rfl,?_⟩;intro Jn hJ;refine⟨fun _=>?_,fun hc=>absurd hc (by simpa using he)⟩
  refine h.st 0 rfl rfl ?_;intro H2 h;refine h.st 1 rfl rfl ?_;intro H3 h;refine hJ _ ?_
  skip
  exact h
 intro w hw;refine (hd w hw).mono fun e' u' w' hh=>?_
 cases e' <;> simp only at hh ⊢
 exact⟨hh.1,hh.2.1▸k _ hh.2.2⟩
theorem z3i {b1 b2:Nat}{KQ:FrameMode→Heap→Prop}(h:SatL H F)
  (k:∀H',SatL H' F→KQ .returning H'):DefQ Tryz.prog 37 [(PA b1 0),(PA b2 0)] .returning H KQ:=by
 have hd:DefQ Tryz.prog 37 [(PA b1 0),(PA b2 0)] .returning H fun u'' H'=>u''=.returning∧SatL H' F:=by
  refine q4a.defq (.inl ⟨rfl,rfl,rfl⟩) ?_;unfold q4a.code;refine qjj ⟨_,rfl,?_⟩;intro Jn hJ;refine⟨fun hc=>absurd hc (by simp),fun _=>hJ _ ?_⟩
  skip
  exact h
 intro w hw;refine (hd w hw).mono fun e' u' w' hh=>?_
 cases e' <;> simp only at hh ⊢
 exact⟨hh.1,hh.2.1▸k _ hh.2.2⟩
end
end Go.Proofs.YtfmkddccnjidmaaGreatDoor
namespace Go.Nm
theorem uRes_lt2 {s:RS}(hb:q04 s.bs)(h:(uRes s).2.e=0):(uRes s).2.bs.length+1≤s.bs.length:=by
 unfold uRes at h ⊢
 split at h
 ·rename_i h0; exact absurd h h0
 ·rename_i h0;rw [if_neg h0]
  split at h
  ·rename_i u n e;have:=Go.Nm.rdU_size hb e;simp only [e];rw [z9m]; omega
  ·simp at h
  ·simp at h
theorem qyt {s s':RS}{o:Ot}(hb:q04 s.bs)(h:q9e s=.ok (o,s')):s'.bs.length+1≤s.bs.length:=by
 unfold q9e at h
 cases e:q70 s with
 | error e'=>rw [e] at h; cases h
 | ok q=>
  obtain⟨v,s1⟩:=q;rw [e] at h;dsimp only at h;have h0:=q4c e;have h1:s1.bs.length+1≤s.bs.length:=by
   rw [h0.1];exact uRes_lt2 hb h0.2.2
  have h2:=(q5k s1 s1.bs.length).1;have h3:=(q5k (tRes s1.bs.length s1).2 (tRes s1.bs.length s1).2.bs.length).1
  split at h
  ·cases h
  split at h
  ·cases h
  split at h
  ·cases h
  ·cases h; omega
theorem qyu:∀{n:Nat} {r r':RS} {l:List Ot},q04 r.bs→q4e n r=.ok (l,r')→l.length=n∧n+r'.bs.length≤r.bs.length
 | 0,r,r',l,hb,h=>by
  cases h
  exact⟨rfl,by omega⟩
 | n+1,r,r',l,hb,h=>by
  unfold q4e at h
  cases h1:q4e n r with
  | error e=>rw [h1] at h; cases h
  | ok q=>
  obtain⟨l1,r1⟩:=q;rw [h1] at h;dsimp only at h;have ih:=qyu hb h1;have hb1:=(qhe hb h1).2
  cases h2:q9e r1 with
  | error e=>rw [h2] at h; cases h
  | ok q=>
  obtain⟨o,r2⟩:=q;rw [h2] at h
  cases h
  have:=qyt hb1 h2;rw [z8t];simp only [z8y,z9j];omega
theorem qt0 {s:RS}{e:Int}:∀{n j:Nat},q4e j s=.error e→j≤n→q4e n s=.error e
 | 0,j,h,hj=>by
  obtain rfl:j=0:=by omega
  exact h
 | n+1,j,h,hj=>by
  rcases z9h n j with h1|h1
  ·obtain rfl:j=n+1:=by omega
   exact h
  ·unfold q4e;rw [qt0 h h1]
end Go.Nm
namespace Go.Proofs.YtfmkddccnjidmaaGreatDoor
open Go.Nm
section
variable {F L:List Assn} {H:Heap} {K KP:Value→Heap→Prop} {Q Q':Assn} {sb:Nat} {s:Sta}
def qjy (Q:Assn)(F:List Assn)(K:KT):Except Int Sta→Prop
 | .ok s=>∀Q' sb H',Sub Q Q'→SatL H' (Q'::stA Q' sb s::F)→K (.tuple #[PA sb 0,I64 0]) H'
 | .error e=>∀Q' H',Sub Q Q'→SatL H' (Q'::F)→K (.tuple #[.pointer none,I64 e]) H'
theorem PPan {b1 b2:Nat}{e v1:Int}{v:Option Addr}(ke:qjy Q F K (.error 10))(he:e≠0)(hs:Sub Q Q')(h:SatL H (cellsA b1 [.pointer v] 27::cellsA b2 [I64 v1] 28::Q'::F)) :
  memN 37 X.calls=true∧DefQ Tryz.prog 37 [(PA b1 0),(PA b2 0)] (panM (pnV e) false) H fun u24 H_64=>u24=panM (pnV e) true∧
   ∃res10,q02 H_64 b1 0=some (.pointer res10)∧∃res11,q02 H_64 b2 0=some (I64 res11)∧K (.tuple #[(.pointer res10),(I64 res11)]) H_64:=
 ⟨rfl,qsz he h fun H2 h=>⟨rfl,_,h.r 0,_,h.r 1,ke Q' _ hs h.tl.tl⟩⟩
theorem qt1 (k:Ky)(c:Cl):q04 (cbB k c):=q0d (q6w _) (qs4 _)
theorem z7u (a:Int)(e:En)(fl:Fl)(st:Str):q04 (agB a e fl st):=
 q0d (q0d (q0d (q0d (q0d (q2o _) (q6w _)) (q2o _)) (q10 fun _ _=>q2o _)) (q2o _)) (q10 fun _ _=>q0d (q2o _) (qsa _))
theorem z3j (s:Sta)(p:Int × En):q04 (agOf s p):=by
 unfold agOf
 split
 ·exact z7u _ _ _ _
 ·exact fun x hx=>by cases hx
theorem qt2 (s:Sta):q04 (stB s):=
 q0d (q0d (q0d (q0d (q0d (q0d (q0d (q2o _) (q6w _)) (q2o _)) (q10 fun _ _=>z3j _ _)) (q2o _)) (q10 fun _ _=>qt1 _ _)) (q2o _)) (q10 fun _ _=>qt1 _ _)
theorem strB_inj {xs ys:List Int}(hx:q04 xs)(hy:q04 ys)(h:(strB xs).toList=(strB ys).toList):xs=ys:=by
 have h2:xs.map (fun n=>UInt8.ofNat n.toNat)=ys.map (fun n=>UInt8.ofNat n.toNat):=by
  rw [← strOfNums_data xs,← strOfNums_data ys];have e:∀b:ByteArray,b.data.toList=b.toList:=fun b=>Eq.symm (ByteArray.toList_eq b)
  rw [e,e];exact h
 have h3:=congrArg (List.map fun b:UInt8=>(b.toNat:Int)) h2
 have e:∀l:List Int,q04 l→(l.map fun n=>UInt8.ofNat n.toNat).map (fun b:UInt8=>(b.toNat:Int))=l:=by
  intro l hl;apply za9 (by simp);intro i h1 h2;simp only [zaa];exact qh4 hl i h2
 rwa [e _ hx,e _ hy] at h3
set_option maxHeartbeats 8000000 in
theorem z3k {rb b1 b2 b3:Nat}{s1:Sta}{bs:List Int}{ba:Option Addr}{bc:Nat}{kn:Int}{r:RS}{Q1:Assn}(hsub:Sub Q Q1)
  (hA:∀H,SatL H F→rdS H ba (bs.map U8)) (hA2:ba=none∨∃k o,ba=some ⟨k,o,none⟩) (hkn:0≤kn∧kn < 18446744073709551616) (hb:q04 r.bs) (hl:r.bs.length≤1000000000) (hbs:q04 bs)
  (hgood:∀l r',q4e kn.toNat r=.ok (l,r')→(q21 r').e=0→q25 { s1 with kept:=l }∧qwl { s1 with kept:=l }∧l.length≤50000)
  (ke:(∀l r',q4e kn.toNat r=.ok (l,r')→(q21 r').e=0→stB { s1 with kept:=l }=bs→False)→qjy Q F K (.error 10))
  (kok:∀l r',q4e kn.toNat r=.ok (l,r')→(q21 r').e=0→stB { s1 with kept:=l }=bs→qjy Q F K (.ok { s1 with kept:=l }))
  (h:SatL H (crdA rb r::Q1::stA Q1 sb { s1 with kept:=[] }::cellsA b1 [PA sb 0] 27::cellsA b2 [I64 0] 28::cellsA b3 [PA rb 0] 109::F)) :
  ∃(Inv2:Int→Heap→Prop) (mu2:Int→Heap→Nat),Inv2 kn H∧
   ∀(n:Int),∀H_54:Heap,Inv2 n H_54→q2l.l2 ba bs.length bc K b1 b2 b3 Inv2 mu2 n H_54:=by
 refine⟨fun n H'=>∃(j:Nat) (l:List Ot) (r':RS),n=kn - j∧(j:Int)≤kn∧q4e j r=.ok (l,r')∧
  SatL H' (crdA rb r'::Q1::stA Q1 sb { s1 with kept:=l }::cellsA b1 [PA sb 0] 27::cellsA b2 [I64 0] 28::cellsA b3 [PA rb 0] 109::F),
  fun n _=>n.toNat,⟨0,[],r,by omega,hkn.1,rfl,h⟩,?_⟩
 rintro n H1 ⟨j,l,r',rfl,hj,hk,h⟩;have hlt:=qyu hb hk;have hok:=qhe hb hk;unfold q2l.l2;refine⟨fun hc=>?_,fun hc=>?_⟩
 ·have hc:=z8s hc;refine⟨_,h.q 5,?_⟩;refine qsu h hok.2 (by omega) ?_;have hk1:q4e (j+1) r=match q9e r' with|.error e=>.error e|.ok (o,r2)=>.ok (l++[o],r2):=by
   rw [q4e,hk] <;> rfl
  cases hr:q9e r' with
  | error e=>
   rw [hr] at hk1;exact fun H' he h=>PPan (ke fun l r1 h1 _ _=>by rw [qt0 hk1 (by omega)] at h1; cases h1) he hsub (h.o [2,3,0] 5)
  | ok q=>
  obtain⟨o,r2⟩:=q;rw [hr] at hk1;intro H2 he2 hb2 hl2 h;refine⟨_,_,_,_,_,_,_,_,_,_,rfl,?_⟩;refine h.al fun b7 _ h=>?_
  refine h.al fun b8 _ h=>?_
  refine h.st 1 rfl rfl ?_;intro H3 h;refine h.sta 0 rfl rfl fun H4 h=>?_
  have h:=h.o [4,0,1,2,3,5,6,7] 8;obtain⟨p,h⟩:=q0i.1 h;refine⟨_,h.r 13,_,h.r 13,q01 ⟨_,_,_,h.r 0,_,_,h.q 10,_,_,_,_,_,_,_,_,h.rda 9 rfl,?_⟩⟩;refine h.al fun b9 _ h=>⟨h.r 1,h.r 14,h.r 14,?_⟩
  refine h.append (m:=1) (ws:=encO o) sl86 9 rfl (h.ce_rd 0 rfl) rfl (q6b _) (by show (l.length+1)*600≤_; omega) (by show l.length+1≤_; omega) fun a6 c6 H5 h=>⟨_,_,_,rfl,h.r 14,q01 ?_⟩
  refine h.st 1 rfl rfl ?_;intro H6 h;have hw:u64.wrap (kn - (j:Int) - 1)=kn - ((j+1:Nat):Int):=by rw [u64e]; omega
  rw [hw];refine⟨⟨j+1,l++[o],r2,rfl,by omega,hk1,?_⟩,by dsimp only; omega⟩;have e4:flat encO (l++[o])=flat encO l++encO o:=by rw [q0k]; simp [flat]
  have h:=h.o [1,2,3,4,5,6,7,8,9,12,13,14,15,16] 17;have h:SatL H6 (stA Q1 sb { s1 with kept:=l++[o] }::_):=q0i.2 ⟨{ p with ka:=a6,kc:=c6 },by
   simp only [q3g,z8t,zad,e4];exact h⟩
  exact h.o [1,2,0,3,4,5] 6
 ·have hge:=z8v hc;have hjn:j=kn.toNat:=by omega
  subst hjn;refine⟨_,h.r 5,?_⟩;refine qok h fun H2 h=>⟨_,rfl,?_⟩
  refine q1i (fun he=>⟨rfl,_,h.r 3,?_⟩) fun he=>PPan (ke fun l2 r2 h1 h2 _=>by rw [hk] at h1; cases h1; exact he h2) he hsub (h.o [3,4,1] 6)
  obtain⟨gok,gser,gk⟩:=hgood l r' hk he;have h:=h.o [1,2,3,4,5] 6;refine qjx gok gser gk h fun a c H3 h=>⟨_,_,_,rfl,?_⟩
  have hsA:a=none∨∃k o,a=some ⟨k,o,none⟩:=by
   rcases (q3i (F:=star _) h).2 with ⟨h2,_⟩|⟨b,pre,post,e',fr,h2,_⟩
   ·exact .inl h2
   ·exact .inr ⟨_,_,h2⟩
  refine qj9 hsA hA2 (h.sl_rd 0 rfl) (hA _ (h.o [] 6)) ⟨_,rfl,?_⟩;intro Jn hJ;refine⟨fun hc=>?_,fun hc=>?_⟩
  ·refine PPan (e:=10) (ke fun l2 r2 h1 h2 h3=>?_) (by decide) hsub (h.o [3,4,1] 6)
   rw [hk] at h1; cases h1;rw [h3] at hc;simp at hc
  ·refine hJ _ ?_;have heq:stB { s1 with kept:=l }=bs:=strB_inj (qt2 _) hbs (by simpa using hc);refine⟨_,h.r 3,?_⟩;refine h.st 3 rfl rfl ?_;intro H4 h;refine h.st 4 rfl rfl ?_;intro H5 h;refine⟨rfl,z3i (h.o [3,4,1,2] 6) fun H6 h=>⟨rfl,_,h.r 0,_,h.r 1,kok l r' hk he heq Q1 sb _ hsub h.tl.tl⟩⟩
end
end Go.Proofs.YtfmkddccnjidmaaGreatDoor
namespace Go.Nm
theorem qyv {most:Int}(h0:ShOk most []):∀{n:Nat} {r r':RS} {m:CM},q04 r.bs→q5f most n r=.ok (m,r')→n+r'.bs.length≤r.bs.length
 | 0,r,r',m,hb,h=>by
  cases h
  omega
 | n+1,r,r',m,hb,h=>by
  unfold q5f at h
  cases h1:q5f most n r with
  | error e=>rw [h1] at h; cases h
  | ok q=>
  obtain⟨m1,r1⟩:=q;rw [h1] at h;dsimp only at h;have ih:=qyv h0 hb h1;have hb1:=(qhd h0 hb h1).2
  cases h2:q9e r1 with
  | error e=>rw [h2] at h; cases h
  | ok q=>
  obtain⟨o,r2⟩:=q;rw [h2] at h;dsimp only at h;have:=qyt hb1 h2
  split at h
  ·cases h
  ·cases h
   omega
theorem qjz {most:Int}{s:RS}{e:Int}:∀{n j:Nat},q5f most j s=.error e→j≤n→q5f most n s=.error e
 | 0,j,h,hj=>by
  obtain rfl:j=0:=by omega
  exact h
 | n+1,j,h,hj=>by
  rcases z9h n j with h1|h1
  ·obtain rfl:j=n+1:=by omega
   exact h
  ·unfold q5f;rw [qjz h h1]
end Go.Nm
namespace Go.Proofs.YtfmkddccnjidmaaGreatDoor
open Go.Nm
section
variable {F L:List Assn} {H:Heap} {K KP:Value→Heap→Prop} {Q Q':Assn} {sb:Nat} {s:Sta}
set_option maxHeartbeats 8000000 in
theorem qws {rb b1 b2 b3:Nat}{s1:Sta}{bs:List Int}{ba:Option Addr}{bc:Nat}{n:Int}{r:RS}{Q1:Assn}(hsub:Sub Q Q1)
  (hA:∀H,SatL H F→rdS H ba (bs.map U8)) (hA2:ba=none∨∃k o,ba=some ⟨k,o,none⟩) (hn:0≤n∧n≤1024) (h0:ShOk s1.cfg.cells []) (hb:q04 r.bs) (hl:r.bs.length≤1000000000) (hbs:q04 bs)
  (hgood:∀m r9 k r10 l r',q5f s1.cfg.cells n.toNat r=.ok (m,r9)→numR r9=.ok (k,r10)→q4e k.toNat r10=.ok (l,r')→(q21 r').e=0→
   q25 { s1 with cm:=m,kept:=l }∧qwl { s1 with cm:=m,kept:=l }∧l.length≤50000)
  (ke:(∀m r9 k r10 l r',q5f s1.cfg.cells n.toNat r=.ok (m,r9)→numR r9=.ok (k,r10)→q4e k.toNat r10=.ok (l,r')→(q21 r').e=0→stB { s1 with cm:=m,kept:=l }=bs→False)→qjy Q F K (.error 10))
  (kok:∀m r9 k r10 l r',q5f s1.cfg.cells n.toNat r=.ok (m,r9)→numR r9=.ok (k,r10)→q4e k.toNat r10=.ok (l,r')→(q21 r').e=0→stB { s1 with cm:=m,kept:=l }=bs→
   qjy Q F K (.ok { s1 with cm:=m,kept:=l }))
  (h:SatL H (crdA rb r::Q1::stA Q1 sb { s1 with cm:=[],kept:=[] }::cellsA b1 [PA sb 0] 27::cellsA b2 [I64 0] 28::cellsA b3 [PA rb 0] 109::F)) :
  ∃(Inv1:Int→Heap→Prop) (mu1:Int→Heap→Nat),Inv1 0 H∧
   ∀(t:Int),∀H':Heap,Inv1 t H'→q2l.l3 ba bs.length bc K b1 b2 b3 n Inv1 mu1 t H':=by
 refine⟨fun t H'=>∃(j:Nat) (m:CM) (r':RS),t=j∧(j:Int)≤n∧q5f s1.cfg.cells j r=.ok (m,r')∧
  SatL H' (crdA rb r'::Q1::stA Q1 sb { s1 with cm:=m,kept:=[] }::cellsA b1 [PA sb 0] 27::cellsA b2 [I64 0] 28::cellsA b3 [PA rb 0] 109::F),
  fun t _=>(n - t).toNat,⟨0,[],r,rfl,hn.1,rfl,h⟩,?_⟩
 rintro t H1 ⟨j,m,r',rfl,hj,hk,h⟩;have hlt:=qyv h0 hb hk;have hok:=qhd h0 hb hk;unfold q2l.l3;refine⟨fun hc=>?_,fun hc=>?_⟩
 ·have hc:=z8s hc;refine⟨_,h.q 5,?_⟩;refine qsu h hok.2 (by omega) ?_;have hk1:q5f s1.cfg.cells (j+1) r=match q9e r' with
    | .error e=>.error e
    | .ok (o,r2)=>if (setS s1.cfg.cells m o.1 o.2).2≠0 then .error (setS s1.cfg.cells m o.1 o.2).2 else .ok ((setS s1.cfg.cells m o.1 o.2).1,r2):=by
   rw [q5f,hk] <;> rfl
  cases hr:q9e r' with
  | error e=>
   rw [hr] at hk1;exact fun H' he h=>PPan (ke fun m r9 k r10 l r1 h1 _ _ _ _=>by rw [qjz hk1 (by omega)] at h1; cases h1) he hsub (h.o [2,3,0] 5)
  | ok q=>
  obtain⟨o,r2⟩:=q;rw [hr] at hk1;dsimp only at hk1;have hco:=qp1 hok.2 hr;intro H2 he2 hb2 hl2 h;refine⟨_,_,_,_,_,_,_,_,_,_,rfl,?_⟩;refine h.al fun b7 _ h=>?_
  refine h.al fun b8 _ h=>?_
  refine h.st 1 rfl rfl ?_;intro H3 h;refine h.sta 0 rfl rfl fun H4 h=>?_
  have h:=h.o [4,0,1,2,3,5,6,7] 8;obtain⟨p,h⟩:=q0i.1 h;refine⟨_,h.r 13,q01 ⟨_,h.r 0,_,_,h.q 10,_,_,_,_,_,_,_,_,h.rda 9 rfl,?_⟩⟩;refine z1s hok.1.1 hco.1 (h.o [5,6,0,1,2,3,4,7,8,11,12,13,14,15] 16) fun H5 h=>⟨_,rfl,?_⟩
  refine q1i (fun he=>⟨rfl,?_⟩) fun he=>PPan (ke fun m2 r9 k r10 l r1 h1 _ _ _ _=>by
   rw [if_pos he] at hk1;rw [qjz hk1 (by omega)] at h1; cases h1) he hsub (h.o [11,12,10] 14)
  rw [if_neg (by simpa using he)] at hk1;have hw:i64.wrap ((j:Int)+1)=((j+1:Nat):Int):=by rw [w64]; omega
  rw [hw];refine⟨⟨j+1,_,r2,rfl,by omega,hk1,?_⟩,by dsimp only; omega⟩;have h:=h.o [2,3,4,5,6,0,1,7,8,9,10,11,12,13] 14;have h:SatL H5 (stA Q1 sb { s1 with cm:=(setS s1.cfg.cells m o.1 o.2).1,kept:=[] }::_):=q0i.2 ⟨p,h⟩;exact h.o [1,2,0,3,4,5] 6
 ·have hge:=z8v hc;have hjn:j=n.toNat:=by omega
  subst hjn;refine⟨_,h.q 5,?_⟩;refine q71 h hok.2 (by omega) ?_
  cases hr:numR r' with
  | error e=>
   exact fun H' he h=>PPan (ke fun m2 r9 k r10 l r1 h1 h2 _ _ _=>by rw [hk] at h1; cases h1; rw [hr] at h2; cases h2) he hsub (h.o [2,3,0] 5)
  | ok q=>
  obtain⟨k,r10⟩:=q;intro H2 he2 hb2 hl2 h;have hln:r10.bs.length≤r'.bs.length:=qea hr;have hkr:0≤k∧k < 18446744073709551616:=by
   rw [(q4c hr).2.1];have:=qvl hok.2;omega
  refine⟨_,rfl,?_⟩;exact z3k (s1:={ s1 with cm:=m }) hsub hA hA2 hkr hb2 (by omega) hbs (fun l r9 h1 h2=>hgood _ _ _ _ _ _ hk hr h1 h2) (fun hn=>ke fun m2 r9 k2 r11 l r1 h1 h2 h3 h4 h5=>by
   rw [hk] at h1; cases h1; rw [hr] at h2; cases h2; exact hn _ _ h3 h4 h5) (fun l r9 h1 h2 h3=>kok _ _ _ _ _ _ hk hr h1 h2 h3) h
end
end Go.Proofs.YtfmkddccnjidmaaGreatDoor
namespace Go.Nm
theorem okR_len {α:Type}{s s':RS}{x y:α}(h:okR s x=.ok (y,s')):s'.bs.length=s.bs.length:=by rw [(q4c h).1]
theorem z3l {s s':RS}{x:Pv}(h:q4w s=.ok (x,s')):s'.bs.length≤s.bs.length:=by
 unfold q4w at h
 cases h1:q1h s with
 | error e'=>rw [h1] at h; cases h
 | ok q=>
  obtain⟨a,s1⟩:=q;rw [h1] at h;dsimp only at h
  cases h2:q70 s1 with
  | error e'=>rw [h2] at h; cases h
  | ok q=>
   obtain⟨b,s2⟩:=q;rw [h2] at h;dsimp only at h;have h3:=okR_len h;have h4:=q0p h1;have h5:=qaj h2;have h6:=qs8 s2;dsimp only at h3;omega
theorem qt3 {hs:HS Pv}{s s':RS}{x:HS Pv}(h:qfl hs s=.ok (x,s')):s'.bs.length≤s.bs.length:=by
 unfold qfl at h
 (repeat' split at h) <;> first|(cases h; done)|(cases h; rename_i a b; exact z95 (z3l (by assumption)) (q0p (by assumption)))
theorem qyw {s s':RS}{x:Smp}(h:smpR s=.ok (x,s')):s'.bs.length≤s.bs.length:=by
 unfold smpR at h
 (repeat' split at h) <;> first|(cases h; done)|(cases h; exact z95 (q0p (by assumption)) (z95 (q0p (by assumption)) (z95 (q0p (by assumption)) (q0p (by assumption)))))|exact z95 (q0p (by assumption)) (z95 (q0p (by assumption)) (z95 (q0p (by assumption)) (q0p (by assumption))))
theorem qb7:∀{n:Nat} {s s':RS} {x:List Smp},qak n s=.ok (x,s')→s'.bs.length≤s.bs.length
 | 0,s,s',x,h=>by cases h; exact z91 _
 | n+1,s,s',x,h=>by
  unfold qak at h
  (repeat' split at h) <;> first|(cases h; done)|(cases h; exact z95 (qyw (by assumption)) (qb7 (by assumption)))|exact z95 (qyw (by assumption)) (qb7 (by assumption))
theorem q8w {hs:HS Pv}:∀{n:Nat} {s s':RS} {x:HS Pv},q4r hs n s=.ok (x,s')→s'.bs.length≤s.bs.length
 | 0,s,s',x,h=>by cases h; exact z91 _
 | n+1,s,s',x,h=>by
  unfold q4r at h
  (repeat' split at h) <;> first|(cases h; done)|(cases h; exact z95 (qt3 (by assumption)) (q8w (by assumption)))|exact z95 (qt3 (by assumption)) (q8w (by assumption))
theorem qt4 {c:Cfg}{a b:Int}{d:Bool}{l:List Smp}{s s':RS}{x:Str}(h:qp0 c a d b l s=.ok (x,s')):s'.bs.length≤s.bs.length:=by
 unfold qp0 at h
 (repeat' split at h) <;> first|(cases h; done)|(cases h; exact z95 (q8w (by assumption)) (z95 (q6d (by assumption)) (q0p (by assumption))))|exact z95 (q8w (by assumption)) (z95 (q6d (by assumption)) (q0p (by assumption)))
theorem qt5 {c:Cfg}{a:Int}{s s':RS}{x:Str}(h:qku c a s=.ok (x,s')):s'.bs.length≤s.bs.length:=by
 unfold qku at h
 (repeat' split at h) <;> first|(cases h; done)|(cases h; exact z95 (qt4 (by assumption)) (z95 (qb7 (by assumption)) (z95 (q6d (by assumption)) (z95 (q0p (by assumption)) (qea (by assumption))))))|exact z95 (qt4 (by assumption)) (z95 (qb7 (by assumption)) (z95 (q6d (by assumption)) (z95 (q0p (by assumption)) (qea (by assumption)))))
theorem qyx {c:Cfg}{s s':RS}{x:Str}(h:strR c s=.ok (x,s')):s'.bs.length≤s.bs.length:=by
 unfold strR at h
 (repeat' split at h) <;> first|(cases h; done)|(cases h; exact z95 (qt5 (by assumption)) (qaj (by assumption)))|exact z95 (qt5 (by assumption)) (qaj (by assumption))
theorem z7v {c:Cfg}{t:Int}{s s':RS}{x:Fl × Str}(h:flR c t s=.ok (x,s')):s'.bs.length≤s.bs.length:=by
 unfold flR at h
 (repeat' split at h) <;> first|(cases h; done)|(cases h; exact z95 (qyx (by assumption)) (qea (by assumption)))|exact z95 (qyx (by assumption)) (qea (by assumption))
theorem qyy {s0:Sta}{a:Int}{s s':RS}{x:List En × Fl × Str}(h:agtR s0 a s=.ok (x,s')):s'.bs.length≤s.bs.length:=by
 unfold agtR at h
 (repeat' split at h) <;> first|(cases h; done)|(cases h; exact z95 (z7v (by assumption)) (z95 (qfm (by assumption)) (z95 (q0p (by assumption)) (z95 (q0p (by assumption)) (q0p (by assumption))))))|exact z95 (z7v (by assumption)) (z95 (qfm (by assumption)) (z95 (q0p (by assumption)) (z95 (q0p (by assumption)) (q0p (by assumption)))))
theorem qp2 {s0:Sta}:∀{n:Nat} {r r':RS} {x:PAg},agsR s0 n r=.ok (x,r')→r'.bs.length≤r.bs.length
 | 0,s,s',x,h=>by cases h; exact z91 _
 | n+1,s,s',x,h=>by
  unfold agsR at h
  (repeat' split at h) <;> first|(cases h; done)|(cases h; exact z95 (qyy (by assumption)) (z95 (q0p (by assumption)) (qp2 (by assumption))))|exact z95 (qyy (by assumption)) (z95 (q0p (by assumption)) (qp2 (by assumption)))
theorem qp3 {s0:Sta}{s:RS}{e:Int}:∀{n j:Nat},agsR s0 j s=.error e→j≤n→agsR s0 n s=.error e
 | 0,j,h,hj=>by
  obtain rfl:j=0:=by omega
  exact h
 | n+1,j,h,hj=>by
  rcases z9h n j with h1|h1
  ·obtain rfl:j=n+1:=by omega
   exact h
  ·unfold agsR;rw [qp3 h h1]
end Go.Nm
namespace Go.Proofs.YtfmkddccnjidmaaGreatDoor
open Go.Nm
section
variable {F L:List Assn} {H:Heap} {K KP:Value→Heap→Prop} {Q Q':Assn} {sb:Nat} {s:Sta}
set_option maxHeartbeats 8000000 in
theorem z7w {rb b1 b2 b3 b4:Nat}{s0:Sta}{bs:List Int}{ba:Option Addr}{bc:Nat}{n moment value:Int}{r:RS}{Q1:Assn}(hsub:Sub Q Q1)
  (hA:∀H,SatL H F→rdS H ba (bs.map U8)) (hA2:ba=none∨∃k o,ba=some ⟨k,o,none⟩) (ok:q25 s0) (hcm:s0.cm=[]) (hke:s0.kept=[]) (hn:0≤n∧n≤64) (hlag:1≤s0.ms.lag∧s0.ms.lag≤1099511627776) (hm:isT moment) (hb:q04 r.bs) (hl:r.bs.length≤1000000000) (hbs:q04 bs)
  (hgood:∀x r7 m r8 cm r9 k r10 l r',agsR s0 n.toNat r=.ok (x,r7)→(moment - s0.ms.lag≤value∧value≤moment)→q22 1024 r7=.ok (m,r8)→q5f s0.cfg.cells m.toNat r8=.ok (cm,r9)→numR r9=.ok (k,r10)→q4e k.toNat r10=.ok (l,r')→(q21 r').e=0→
   q25 { s0 with rows:=x.rows,sts:=x.sts,ms:=⟨s0.ms.lag,moment,value,x.fls⟩,cm:=cm,kept:=l }∧qwl { s0 with rows:=x.rows,sts:=x.sts,ms:=⟨s0.ms.lag,moment,value,x.fls⟩,cm:=cm,kept:=l }∧l.length≤50000)
  (ke:(∀x r7 m r8 cm r9 k r10 l r',agsR s0 n.toNat r=.ok (x,r7)→(moment - s0.ms.lag≤value∧value≤moment)→q22 1024 r7=.ok (m,r8)→q5f s0.cfg.cells m.toNat r8=.ok (cm,r9)→numR r9=.ok (k,r10)→q4e k.toNat r10=.ok (l,r')→(q21 r').e=0→
   stB { s0 with rows:=x.rows,sts:=x.sts,ms:=⟨s0.ms.lag,moment,value,x.fls⟩,cm:=cm,kept:=l }=bs→False)→qjy Q F K (.error 10))
  (kok:∀x r7 m r8 cm r9 k r10 l r',agsR s0 n.toNat r=.ok (x,r7)→(moment - s0.ms.lag≤value∧value≤moment)→q22 1024 r7=.ok (m,r8)→q5f s0.cfg.cells m.toNat r8=.ok (cm,r9)→numR r9=.ok (k,r10)→q4e k.toNat r10=.ok (l,r')→(q21 r').e=0→
   stB { s0 with rows:=x.rows,sts:=x.sts,ms:=⟨s0.ms.lag,moment,value,x.fls⟩,cm:=cm,kept:=l }=bs→
   qjy Q F K (.ok { s0 with rows:=x.rows,sts:=x.sts,ms:=⟨s0.ms.lag,moment,value,x.fls⟩,cm:=cm,kept:=l }))
  (h:SatL H (crdA rb r::Q1::stA Q1 sb s0::Ma.mapF b4 []::cellsA b1 [PA sb 0] 27::cellsA b2 [I64 0] 28::cellsA b3 [PA rb 0] 109::F)) :
  ∃(Inv:Int→Heap→Prop) (mu:Int→Heap→Nat),Inv 0 H∧
   ∀(t:Int),∀H':Heap,Inv t H'→q2l.l4 ba bs.length bc K b1 b2 b3 moment value b4 n Inv mu t H':=by
 refine⟨fun t H'=>∃(j:Nat) (x:PAg) (r':RS) (Q1:Assn) (p:SAd),t=j∧(j:Int)≤n∧agsR s0 j r=.ok (x,r')∧q04 r'.bs∧Sub Q Q1∧
  SatL H' (crdA rb r'::Q1::cellsA sb (q3g s0 p) 115::Ro.rollC p.rb p.rm s0.cfg.agents::Ro.mapE p.rm x.rows::strmA Q1 p.tm x.sts::Ma.markC p.mb p.mm s0.ms::Ma.mapF p.mm s0.ms.m::shC p.hb p.hm s0.cfg.cells::mapC p.hm s0.cm::slA 64 74 p.ka s0.kept.length p.kc (flat encO s0.kept)::
   Ma.mapF b4 x.fls::cellsA b1 [PA sb 0] 27::cellsA b2 [I64 0] 28::cellsA b3 [PA rb 0] 109::F),
  fun t _=>(n - t).toNat,?_,?_⟩
 ·have h:=h.o [2,0,1,3,4,5,6] 7;obtain⟨p,h⟩:=q0i.1 h;exact⟨0,⟨s0.rows,s0.sts,[]⟩,r,Q1,p,rfl,hn.1,rfl,hb,hsub,h.o [9,10,0,1,2,7,3,4,5,6,8,11,12,13,14] 15⟩
 rintro t H1 ⟨j,x,r',Q1,p,rfl,hj,hk,hb',hsub,h⟩;have hlt:=qp2 hk;have hx:=qwr ok hk;unfold q2l.l4;refine⟨fun hc=>?_,fun hc=>?_⟩
 ·have hc:=z8s hc;refine⟨_,h.q 14,?_⟩;refine q1x h hb' (by omega) ?_
  cases hr:q1h r' with
  | error e=>
   have hk0:agsR s0 (j+1) r=.error e:=by
    rw [agsR,hk];dsimp only;rw [hr]
   exact fun H' he h=>PPan (ke fun x2 r7 m r8 cm r9 k r10 l r1 h1 _ _ _ _ _ _ _=>by rw [qp3 hk0 (by omega)] at h1; cases h1) he hsub (h.o [11,12,0] 14)
  | ok q=>
  obtain⟨a,r2⟩:=q;intro H2 he2 hb2 hl2 h;refine⟨_,rfl,_,h.q 14,_,h.r 12,?_⟩;refine qsy (s:={ s0 with rows:=x.rows,sts:=x.sts }) (a:=a) ok.cfg hx.rows hx.len hb2 hl2 ?_ h;have hk1:agsR s0 (j+1) r=match agtR { s0 with rows:=x.rows,sts:=x.sts } a r2 with
    | .error e=>.error e
    | .ok (y,r3)=>.ok (⟨y.1,x.sts.set a.toNat (some y.2.2),mset a y.2.1 x.fls⟩,r3):=by
   rw [agsR,hk];dsimp only;rw [hr] <;> rfl
  cases hq:agtR { s0 with rows:=x.rows,sts:=x.sts } a r2 with
  | error e=>
   rw [hq] at hk1;exact fun Q2 H' he hs h=>PPan (ke fun x2 r7 m r8 cm r9 k r10 l r1 h1 _ _ _ _ _ _ _=>by rw [qp3 hk1 (by omega)] at h1; cases h1) he (hsub.trans hs) (h.o [7,8,0] 10)
  | ok q=>
  obtain⟨y,r3⟩:=q;rw [hq] at hk1;intro Q2 H3 hs he3 hb3 hl3 h;refine⟨_,_,_,_,rfl,?_⟩;refine h.mp_update (α:=Fl) (v:=y.2.1) Ma.mt45 Ma.ko2 11 rfl fun H4 h=>?_
  have hw:i64.wrap ((j:Int)+1)=((j+1:Nat):Int):=by rw [w64]; omega
  rw [hw];refine⟨⟨j+1,_,r3,Q2,p,rfl,by omega,hk1,hb3,hsub.trans hs,?_⟩,by dsimp only; omega⟩;exact h.o [1,0,2,4,5,3,6,7,8,9,10,11,12,13,14] 15
 ·have hge:=z8v hc;have hjn:j=n.toNat:=by omega
  subst hjn;refine⟨_,h.r 12,q01 ⟨_,h.r 2,?_⟩⟩
  by_cases hv:moment - s0.ms.lag≤value∧value≤moment
  ·refine Ma.Set_spec hm hlag hv (fun p hp=>⟨(hx.fls p hp).1,(hx.fls p hp).2.1⟩) (h.o [6,7,11,0,1,2,3,4,5,8,9,10,12,13,14] 15) fun rb' H2 h=>⟨_,rfl,?_⟩
   refine q1i (fun he=>⟨rfl,_,h.q 14,?_⟩) fun he=>absurd rfl he
   refine q73 (by decide) (h.o [3,4,5,6,7,8,0,1,9,10,11,12,13,14] 15) hb' (by omega) ?_
   cases hr:q22 1024 r' with
   | error e=>
    exact fun H' he h=>PPan (ke fun x2 r7 m r8 cm r9 k r10 l r1 h1 _ h3 _ _ _ _ _=>by rw [hk] at h1; cases h1; rw [hr] at h3; cases h3) he hsub (h.o [10,11,0] 13)
   | ok q=>
   obtain⟨m,r8⟩:=q;intro H3 he3 hb3 hl3 h;have hm8:=q6d hr;have hmm:0≤m∧m≤1024:=by rw [(q4c hr).2.1]; exact qwb hb' (by decide)
   refine⟨_,rfl,?_⟩;have h:=h.o [2,3,4,6,7,8,9,5,10,0,1,11,12,13] 14;have h:SatL H3 (stA Q1 sb { s0 with rows:=x.rows,sts:=x.sts,ms:=⟨s0.ms.lag,moment,value,x.fls⟩,cm:=s0.cm,kept:=s0.kept }::_):=q0i.2 ⟨{ p with mm:=rb' },h⟩;rw [hcm,hke] at h;exact qws (s1:={ s0 with rows:=x.rows,sts:=x.sts,ms:=⟨s0.ms.lag,moment,value,x.fls⟩ }) hsub hA hA2 hmm (by have:=ok.sh; rwa [hcm] at this) hb3 (by omega) hbs
    (fun cm r9 k r10 l r11=>hgood x r' m r8 cm r9 k r10 l r11 hk hv hr) (fun hn=>ke fun x2 r7 m r8 cm r9 k r10 l r1 h1 _ h3 h4 h5 h6 h7 h8=>by
     rw [hk] at h1; cases h1; rw [hr] at h3; cases h3; exact hn _ _ _ _ _ _ h4 h5 h6 h7 h8) (fun cm r9 k r10 l r11=>kok x r' m r8 cm r9 k r10 l r11 hk hv hr) (h.o [1,2,0,3,4,5] 6)
  ·refine MSet_err hm hlag hv (h.o [6,0,1,2,3,4,5,7,8,9,10,11,12,13,14] 15) ⟨_,rfl,?_⟩;refine q1i (fun he=>absurd he (by decide)) fun he=>PPan (ke fun x2 r7 m r8 cm r9 k r10 l r1 h1 h2 _ _ _ _ _ _=>hv h2) he hsub (h.o [12,13,1] 15)
end
end Go.Proofs.YtfmkddccnjidmaaGreatDoor
namespace Go.Nm
theorem qwt {s s':RS}{x:Int}(hb:q04 s.bs)(h:numR s=.ok (x,s')):q04 s'.bs:=by rw [(q4c h).1]; exact q0v hb
theorem q3q {s s':RS}{x:Int}(hb:q04 s.bs)(h:q1h s=.ok (x,s')):q04 s'.bs:=by rw [(q4c h).1]; exact q0v hb
theorem qp4 {s s':RS}{x:Int}(hb:q04 s.bs)(h:q70 s=.ok (x,s')):q04 s'.bs:=by rw [(q4c h).1]; exact q0v hb
theorem qed {s s':RS}{m x:Int}(hb:q04 s.bs)(h:q22 m s=.ok (x,s')):q04 s'.bs:=by rw [(q4c h).1]; exact q83 hb
theorem qt6 {s s':RS}{m x:Int}(hb:q04 s.bs)(h:upR m s=.ok (x,s')):q04 s'.bs:=by
 unfold upR at h
 cases h1:q1h s with
 | error e=>rw [h1] at h; cases h
 | ok q=>
  obtain⟨a,s1⟩:=q;rw [h1] at h;dsimp only at h
  split at h
  ·cases h; exact q3q hb h1
  ·cases h
theorem z7x {s s':RS}{x:Pv}(hb:q04 s.bs)(h:q4w s=.ok (x,s')):q04 s'.bs:=by
 unfold q4w at h
 cases h1:q1h s with
 | error e'=>rw [h1] at h; cases h
 | ok q=>
  obtain⟨a,s1⟩:=q;rw [h1] at h;dsimp only at h
  cases h2:q70 s1 with
  | error e'=>rw [h2] at h; cases h
  | ok q=>
   obtain⟨b,s2⟩:=q;rw [h2] at h;dsimp only at h;rw [(q4c h).1];exact qj6 (qp4 (q3q hb h1) h2)
theorem waitR_by {hs:HS Pv}{s s':RS}{x:HS Pv}(hb:q04 s.bs)(h:qfl hs s=.ok (x,s')):q04 s'.bs:=by
 unfold qfl at h
 (repeat' split at h) <;> first|(cases h; done)|(cases h; exact z7x (q3q hb (by assumption)) (by assumption))
theorem smpR_by {s s':RS}{x:Smp}(hb:q04 s.bs)(h:smpR s=.ok (x,s')):q04 s'.bs:=by
 unfold smpR at h
 (repeat' split at h) <;> first|(cases h; done)|(cases h; exact q3q (q3q (q3q (q3q hb (by assumption)) (by assumption)) (by assumption)) (by assumption))
theorem qyz:∀{n:Nat} {s s':RS} {x:List Smp},q04 s.bs→qak n s=.ok (x,s')→q04 s'.bs
 | 0,s,s',x,hb,h=>by cases h; exact hb
 | n+1,s,s',x,hb,h=>by
  unfold qak at h
  (repeat' split at h) <;> first|(cases h; done)|(cases h; exact smpR_by (qyz hb (by assumption)) (by assumption))
theorem qt7 {hs:HS Pv}:∀{n:Nat} {s s':RS} {x:HS Pv},q04 s.bs→q4r hs n s=.ok (x,s')→q04 s'.bs
 | 0,s,s',x,hb,h=>by cases h; exact hb
 | n+1,s,s',x,hb,h=>by
  unfold q4r at h
  (repeat' split at h) <;> first|(cases h; done)|exact waitR_by (qt7 hb (by assumption)) h
theorem strR3_by {c:Cfg}{a b:Int}{d:Bool}{l:List Smp}{s s':RS}{x:Str}(hb:q04 s.bs)(h:qp0 c a d b l s=.ok (x,s')):q04 s'.bs:=by
 unfold qp0 at h
 (repeat' split at h) <;> first|(cases h; done)|(cases h; exact qt7 (qed (q3q hb (by assumption)) (by assumption)) (by assumption))
theorem strR2_by {c:Cfg}{a:Int}{s s':RS}{x:Str}(hb:q04 s.bs)(h:qku c a s=.ok (x,s')):q04 s'.bs:=by
 unfold qku at h
 (repeat' split at h) <;> first|(cases h; done)|exact strR3_by (qyz (qed (q3q (qwt hb (by assumption)) (by assumption)) (by assumption)) (by assumption)) h
theorem strR_by {c:Cfg}{s s':RS}{x:Str}(hb:q04 s.bs)(h:strR c s=.ok (x,s')):q04 s'.bs:=by
 unfold strR at h
 (repeat' split at h) <;> first|(cases h; done)|exact strR2_by (qp4 hb (by assumption)) h
theorem flR_by {c:Cfg}{t:Int}{s s':RS}{x:Fl × Str}(hb:q04 s.bs)(h:flR c t s=.ok (x,s')):q04 s'.bs:=by
 unfold flR at h
 (repeat' split at h) <;> first|(cases h; done)|(cases h; exact strR_by (qwt hb (by assumption)) (by assumption))
theorem agtR_by {s0:Sta}{a:Int}{s s':RS}{x:List En × Fl × Str}(hb:q04 s.bs)(h:agtR s0 a s=.ok (x,s')):q04 s'.bs:=by
 unfold agtR at h
 (repeat' split at h) <;> first|(cases h; done)|(cases h; exact flR_by (qt6 (q3q (q3q (q3q hb (by assumption)) (by assumption)) (by assumption)) (by assumption)) (by assumption))
theorem z7y {s0:Sta}:∀{n:Nat} {r r':RS} {x:PAg},q04 r.bs→agsR s0 n r=.ok (x,r')→q04 r'.bs
 | 0,s,s',x,hb,h=>by cases h; exact hb
 | n+1,s,s',x,hb,h=>by
  unfold agsR at h
  (repeat' split at h) <;> first|(cases h; done)|(cases h; exact agtR_by (q3q (z7y hb (by assumption)) (by assumption)) (by assumption))
theorem z7z {c:Cfg}{bs:List Int}{s:Sta}(hb:q04 bs)(okc:qbk c)(h:q7l c bs=.ok s):q25 s:=by
 unfold q7l at h
 cases h1:upR 4611686018427387903 ⟨0,bs⟩ with
 | error e=>rw [h1] at h; cases h
 | ok q=>
 obtain⟨now,r1⟩:=q;have b1:=qt6 hb h1;rw [h1] at h;dsimp only at h
 cases h2:upR 1099511627776 r1 with
 | error e=>rw [h2] at h; cases h
 | ok q=>
 obtain⟨boots,r2⟩:=q;have b2:=qt6 b1 h2;rw [h2] at h;dsimp only at h
 cases h3:upR 1099511627776 r2 with
 | error e=>rw [h3] at h; cases h
 | ok q=>
 obtain⟨sunk,r3⟩:=q;have b3:=qt6 b2 h3;rw [h3] at h;dsimp only at h
 cases h4:upR now r3 with
 | error e=>rw [h4] at h; cases h
 | ok q=>
 obtain⟨moment,r4⟩:=q;have b4:=qt6 b3 h4;rw [h4] at h;dsimp only at h
 cases h5:q70 r4 with
 | error e=>rw [h5] at h; cases h
 | ok q=>
 obtain⟨value,r5⟩:=q;have b5:=qp4 b4 h5;rw [h5] at h;dsimp only at h
 cases h6:q22 64 r5 with
 | error e=>rw [h6] at h; cases h
 | ok q=>
 obtain⟨n,r6⟩:=q;have b6:=qed b5 h6;rw [h6] at h;dsimp only at h;have i1:=qec h1;have i2:=qec h2;have i3:=qec h3;have i4:=qec h4;have ok0:q25 { newS c with now:=now,boots:=boots,sunk:=sunk }:=(qco okc).upd (now:=now) (ms:=(newS c).ms) (cm:=(newS c).cm) (kept:=(newS c).kept) (sunk:=sunk) (boots:=boots) i1 (qco okc).ms rfl (qco okc).sh (qco okc).kept i3.1 i2
 cases h7:agsR { newS c with now:=now,boots:=boots,sunk:=sunk } n.toNat r6 with
 | error e=>rw [h7] at h; cases h
 | ok q=>
 obtain⟨x,r7⟩:=q;have b7:=z7y b6 h7;have gx:=qwr ok0 h7;rw [h7] at h;dsimp only at h
 split at h
 ·cases h
 rename_i hv;have hv:=Decidable.not_not.1 hv
 cases h8:q22 1024 r7 with
 | error e=>rw [h8] at h; cases h
 | ok q=>
 obtain⟨m,r8⟩:=q;have b8:=qed b7 h8;rw [h8] at h;dsimp only at h
 cases h9:q5f c.cells m.toNat r8 with
 | error e=>rw [h9] at h; cases h
 | ok q=>
 obtain⟨cm,r9⟩:=q;have g9:=qhd (qco okc).sh b8 h9;rw [h9] at h;dsimp only at h
 cases h10:numR r9 with
 | error e=>rw [h10] at h; cases h
 | ok q=>
 obtain⟨k,r10⟩:=q;have b10:=qwt g9.2 h10;rw [h10] at h;dsimp only at h
 cases h11:q4e k.toNat r10 with
 | error e=>rw [h11] at h; cases h
 | ok q=>
 obtain⟨kept,r11⟩:=q;have g11:=qhe b10 h11;rw [h11] at h;dsimp only at h
 split at h
 ·cases h
 cases h
 have hl:=okc.lag;have hm:isT moment:=⟨i4.1,by show moment≤_; omega⟩;exact⟨okc,i1,i2,i3.1,gx.rows,⟨hl.1,hl.2,hm,by show -c.lag≤value; omega,by show value≤_; omega,gx.nd,fun p hp=>⟨(gx.fls p hp).1,(gx.fls p hp).2.1⟩⟩,rfl,g9.1.sh,gx.len,gx.sts,gx.reg,g11.1⟩
end Go.Nm
namespace Go.Proofs.YtfmkddccnjidmaaGreatDoor
open Go.Nm
section
variable {F L:List Assn} {H:Heap} {K KP:Value→Heap→Prop} {Q Q':Assn} {sb:Nat} {s:Sta}
set_option maxHeartbeats 8000000 in
theorem z3m {c:Cfg}{bs:List Int}{ba:Option Addr}{bc:Nat}(h:SatL H (Q::F))
  (hA:∀H,SatL H F→rdS H ba (bs.map U8)) (hA2:ba=none∨∃k o,ba=some ⟨k,o,none⟩) (hbs:q04 bs) (hl:bs.length≤1000000000)
  (hgood:cfgR c=true→∀s,q7l c bs=.ok s→qwl s∧s.kept.length≤50000)
  (k1:cfgR c=false→∀H',SatL H' (Q::F)→K (.tuple #[.pointer none,I64 11]) H')
  (k2:cfgR c=true→∀e,qge c bs=.error e→qjy Q F K (.error 10))
  (k3:cfgR c=true→∀s,qge c bs=.ok s→qjy Q F K (.ok s)) :
  CF 11 #[.agg ⟨qgr c⟩,.slice ba bs.length bc] H K:=by
 refine qrp ?_;refine h.al fun b0 _ h=>?_
 refine h.al fun b1 _ h=>?_
 refine h.al fun b2 _ h=>?_
 refine⟨_,_,_,_,_,_,_,_,_,h.q 2,?_⟩;refine qfk (Q:=Q) (c:=c) h (fun hc H1 h=>?_) fun hc sb H1 h=>?_
 ·refine⟨_,_,rfl,?_⟩;refine h.st 1 rfl rfl ?_;intro H2 h;refine h.st 0 rfl rfl ?_;intro H3 h;refine⟨_,h.r 0,fun _=>?_,fun hf=>absurd hf (by simp)⟩
  refine⟨_,h.r 0,?_⟩;refine h.st 1 rfl rfl ?_;intro H4 h;refine⟨h.r 0,?_⟩;refine h.st 0 rfl rfl ?_;intro H5 h;exact⟨_,h.r 1,_,h.r 0,k1 hc _ (h.o [3] 4)⟩
 have okc:=qjs hc;have ok0:=qco okc;refine⟨_,_,rfl,?_⟩;refine h.st 2 rfl rfl ?_;intro H2 h;refine h.st 1 rfl rfl ?_;intro H3 h;refine⟨_,h.r 1,fun hf=>absurd hf (by simp),fun _=>?_⟩
 refine qiq h (fun H h=>hA H (h.o [] 5)) (by omega) fun rb H4 h=>⟨_,rfl,?_⟩
 refine h.al fun b3 _ h=>?_
 refine h.st 0 rfl rfl ?_;intro H5 h;refine⟨_,h.r 4,_,h.r 4,_,h.r 4,_,h.q 0,_,h.q 0,_,h.q 0,?_⟩;have h:=h.o [1,0,2,3,4,6] 7;have KE:=fun e (he:q7l c bs=.error e)=>k2 hc 10 (by unfold qge; rw [if_neg (by simp [hc]),he])
 have pan:∀{e:Int} {H:Heap} {sv:Sta} {b1 b2 b3 rb:Nat} {v1:Int} {v:Option Addr},qjy Q F K (.error 10)→e≠0→SatL H (cellsA b3 [PA rb 0] 109::stA Q sb sv::cellsA b2 [I64 v1] 28::cellsA b1 [.pointer v] 27::Q::F)→
   memN 37 X.calls=true∧DefQ Tryz.prog 37 [(PA b1 0),(PA b2 0)] (panM (pnV e) false) H fun u24 H_64=>u24=panM (pnV e) true∧
   ∃res10,q02 H_64 b1 0=some (.pointer res10)∧∃res11,q02 H_64 b2 0=some (I64 res11)∧K (.tuple #[(.pointer res10),(I64 res11)]) H_64:=
  fun ke he h=>PPan ke he (Sub.refl Q) (h.o [3,2,4] 5)
 unfold q7l at KE;refine q87 h hbs (by show bs.length≤_; omega) ?_
 cases h1:upR 4611686018427387903 ⟨0,bs⟩ with
 | error e=>rw [h1] at KE; exact fun H' he h=>pan (KE _ rfl) he h
 | ok q=>
 obtain⟨now,r1⟩:=q;rw [h1] at KE;dsimp only at KE;intro H6 e1 b1' l1 h;refine⟨_,rfl,h.q 1,h.q 1,h.r 4,h.r 4,h.r 4,?_⟩;refine q87 h b1' l1 ?_
 cases h2:upR 1099511627776 r1 with
 | error e=>rw [h2] at KE; exact fun H' he h=>pan (KE _ rfl) he h
 | ok q=>
 obtain⟨boots,r2⟩:=q;rw [h2] at KE;dsimp only at KE;intro H7 e2 b2' l2 h;refine⟨_,rfl,h.q 1,h.r 4,h.r 4,h.r 4,?_⟩;refine q87 h b2' l2 ?_
 cases h3:upR 1099511627776 r2 with
 | error e=>rw [h3] at KE; exact fun H' he h=>pan (KE _ rfl) he h
 | ok q=>
 obtain⟨sunk,r3⟩:=q;rw [h3] at KE;dsimp only at KE;intro H8 e3 b3' l3 h;have i1:=qec h1;have i2:=qec h2;have i3:=qec h3;have okN:q25 { newS c with now:=now,boots:=boots,sunk:=sunk }:=ok0.upd (now:=now) (ms:=(newS c).ms) (cm:=(newS c).cm) (kept:=(newS c).kept) (sunk:=sunk) (boots:=boots) i1 ok0.ms rfl ok0.sh ok0.kept i3.1 i2;refine⟨_,rfl,h.r 4,h.r 4,h.r 4,q01 ?_⟩;have h:=h.o [2,0,1,3,4,5] 6;obtain⟨p,h⟩:=q0i.1 h;refine h.st 0 rfl rfl ?_;intro H9 h;refine⟨h.r 12,h.r 12,q01 ?_⟩;refine h.st 0 rfl rfl ?_;intro H10 h;refine⟨h.r 12,q01 ?_⟩;refine h.st 0 rfl rfl ?_;intro H11 h;refine⟨_,h.q 10,_,h.r 12,q01 ⟨_,h.r 0,_,h.q 10,?_⟩⟩;have h:SatL H11 (stA Q sb { newS c with now:=now,boots:=boots,sunk:=sunk }::_):=q0i.2 ⟨p,h⟩;have h:=h.o [1,2,0,3,4,5] 6;refine q87 h b3' l3 ?_
 cases h4:upR now r3 with
 | error e=>rw [h4] at KE; exact fun H' he h=>pan (KE _ rfl) he h
 | ok q=>
 obtain⟨moment,r4⟩:=q;rw [h4] at KE;dsimp only at KE;intro H12 e4 b4' l4 h;refine⟨_,rfl,h.q 1,?_⟩;refine q72 h b4' l4 ?_
 cases h5:q70 r4 with
 | error e=>rw [h5] at KE; exact fun H' he h=>pan (KE _ rfl) he h
 | ok q=>
 obtain⟨value,r5⟩:=q;rw [h5] at KE;dsimp only at KE;intro H13 e5 b5' l5 h;refine⟨_,rfl,?_⟩;refine h.alm I64 aggF fun b4 _ h=>?_
 refine⟨_,h.q 2,?_⟩;have h:=h.o [1,2,3,4,5,6,0] 7;refine q73 (by decide) h b5' l5 ?_
 cases h6:q22 64 r5 with
 | error e=>rw [h6] at KE; exact fun H' he h=>pan (KE _ rfl) he (h.o [0,1,2,3,4] 6)
 | ok q=>
 obtain⟨n,r6⟩:=q;rw [h6] at KE;dsimp only at KE;intro H14 e6 b6' l6 h;have i4:=qec h4;have hn:0≤n∧n≤64:=by rw [(q4c h6).2.1]; exact qwb b5' (by decide)
 have t1:=qfm h1;have t2:=qfm h2;have t3:=qfm h3;have t4:=qfm h4;have t5:=qaj h5;have t6:=q6d h6;dsimp only at t1;refine⟨_,rfl,?_⟩;have P1:∀x r7 m r8 cm r9 k r10 l r',agsR { newS c with now:=now,boots:=boots,sunk:=sunk } n.toNat r6=.ok (x,r7)→(moment - c.lag≤value∧value≤moment)→q22 1024 r7=.ok (m,r8)→q5f c.cells m.toNat r8=.ok (cm,r9)→numR r9=.ok (k,r10)→q4e k.toNat r10=.ok (l,r')→(q21 r').e=0→
   q7l c bs=.ok ⟨c,now,boots,sunk,x.rows,⟨c.lag,moment,value,x.fls⟩,cm,x.sts,l⟩:=by
  intro x r7 m r8 cm r9 k r10 l r' a1 a2 a3 a4 a5 a6 a7;unfold q7l;rw [h1]; dsimp only;rw [h2]; dsimp only;rw [h3]; dsimp only;rw [h4]; dsimp only;rw [h5]; dsimp only;rw [h6]; dsimp only;rw [a1]; dsimp only;rw [if_neg (fun hn=>hn a2),a3]; dsimp only
  rw [a4]; dsimp only;rw [a5]; dsimp only;rw [a6]; dsimp only;rw [if_neg (fun hn=>hn a7)]
 have P2:∀s,q7l c bs=.ok s→∃x r7 m r8 cm r9 k r10 l r',agsR { newS c with now:=now,boots:=boots,sunk:=sunk } n.toNat r6=.ok (x,r7)∧(moment - c.lag≤value∧value≤moment)∧q22 1024 r7=.ok (m,r8)∧q5f c.cells m.toNat r8=.ok (cm,r9)∧numR r9=.ok (k,r10)∧q4e k.toNat r10=.ok (l,r')∧(q21 r').e=0∧
   s=⟨c,now,boots,sunk,x.rows,⟨c.lag,moment,value,x.fls⟩,cm,x.sts,l⟩:=by
  intro s hp;unfold q7l at hp;rw [h1] at hp; dsimp only at hp;rw [h2] at hp; dsimp only at hp;rw [h3] at hp; dsimp only at hp;rw [h4] at hp; dsimp only at hp;rw [h5] at hp; dsimp only at hp;rw [h6] at hp; dsimp only at hp
  cases a1:agsR { newS c with now:=now,boots:=boots,sunk:=sunk } n.toNat r6 with
  | error e=>rw [a1] at hp; cases hp
  | ok q=>
  obtain⟨x,r7⟩:=q;rw [a1] at hp; dsimp only at hp
  split at hp
  ·cases hp
  rename_i a2;have a2:=Decidable.not_not.1 a2
  cases a3:q22 1024 r7 with
  | error e=>rw [a3] at hp; cases hp
  | ok q=>
  obtain⟨m,r8⟩:=q;rw [a3] at hp; dsimp only at hp
  cases a4:q5f c.cells m.toNat r8 with
  | error e=>rw [a4] at hp; cases hp
  | ok q=>
  obtain⟨cm,r9⟩:=q;rw [a4] at hp; dsimp only at hp
  cases a5:numR r9 with
  | error e=>rw [a5] at hp; cases hp
  | ok q=>
  obtain⟨k,r10⟩:=q;rw [a5] at hp; dsimp only at hp
  cases a6:q4e k.toNat r10 with
  | error e=>rw [a6] at hp; cases hp
  | ok q=>
  obtain⟨l,r'⟩:=q;rw [a6] at hp; dsimp only at hp
  split at hp
  ·cases hp
  rename_i a7
  cases hp
  exact⟨x,r7,m,r8,cm,r9,k,r10,l,r',rfl,a2,a3,a4,a5,a6,Decidable.not_not.1 a7,rfl⟩
 have ke:(∀x r7 m r8 cm r9 k r10 l r',agsR { newS c with now:=now,boots:=boots,sunk:=sunk } n.toNat r6=.ok (x,r7)→(moment - c.lag≤value∧value≤moment)→q22 1024 r7=.ok (m,r8)→q5f c.cells m.toNat r8=.ok (cm,r9)→numR r9=.ok (k,r10)→q4e k.toNat r10=.ok (l,r')→(q21 r').e=0→
   stB ⟨c,now,boots,sunk,x.rows,⟨c.lag,moment,value,x.fls⟩,cm,x.sts,l⟩=bs→False)→qjy Q F K (.error 10):=by
  intro hn
  cases hp:qge c bs with
  | error e=>exact k2 hc e hp
  | ok s=>
   exfalso;unfold qge at hp;rw [if_neg (by simp [hc])] at hp
   cases hq:q7l c bs with
   | error e=>rw [hq] at hp; cases hp
   | ok s1=>
   rw [hq] at hp;dsimp only at hp
   split at hp
   ·rename_i he
    cases hp
    obtain⟨x,r7,m,r8,cm,r9,k,r10,l,r',a1,a2,a3,a4,a5,a6,a7,rfl⟩:=P2 _ hq;exact hn x r7 m r8 cm r9 k r10 l r' a1 a2 a3 a4 a5 a6 a7 he
   ·cases hp
 refine z7w (s0:={ newS c with now:=now,boots:=boots,sunk:=sunk }) (Sub.refl Q) hA hA2 okN rfl rfl hn okc.lag ⟨i4.1,by omega⟩ b6' (by omega) hbs ?_ ke ?_ (h.o [0,5,2,6,4,3,1] 7)
 ·intro x r7 m r8 cm r9 k r10 l r' a1 a2 a3 a4 a5 a6 a7;have:=P1 x r7 m r8 cm r9 k r10 l r' a1 a2 a3 a4 a5 a6 a7;exact⟨z7z hbs okc this,hgood hc _ this⟩
 ·intro x r7 m r8 cm r9 k r10 l r' a1 a2 a3 a4 a5 a6 a7 a8;have:=P1 x r7 m r8 cm r9 k r10 l r' a1 a2 a3 a4 a5 a6 a7;refine k3 hc _ ?_;unfold qge;rw [if_neg (by simp [hc]),this];dsimp only;exact if_pos a8
end
end Go.Proofs.YtfmkddccnjidmaaGreatDoor
namespace Go.Nm
structure Rx where
 kind:Int
 ag:Int
 ep:Int
 bt:Int
 nx:Int
 st:Int
 nw:Int
 sm:Smp
 ea:Option Addr
 ec:Nat
 evs:List Ev
def Rx.p (x:Rx):Rp:=⟨x.kind,x.ag,x.ep,x.bt,x.nx,x.st,x.nw,x.sm,x.evs.map Ev.p⟩
abbrev encX (x:Rx):List Value:=[I64 x.kind,I64 x.ag,I64 x.ep,I64 x.bt,I64 x.nx,I64 x.st,I64 x.nw,I64 x.sm.asked,I64 x.sm.got,I64 x.sm.sent,I64 x.sm.came,.slice x.ea x.evs.length x.ec]
theorem qee (x:Rx):(encX x).length=12:=rfl
structure RxK (Q:Assn)(x:Rx):Prop where
 rd:KIn Q x.ea (flat encV x.evs)
 labs:∀e∈x.evs,q5z Q e
 val:∀e∈x.evs,wf64 e.value
 ll:∀e∈x.evs,e.labs.length≤maxLen
structure XsK (Q:Assn)(a:Option Addr)(xs:List Rx):Prop where
 rd:KIn Q a (flat encX xs)
 rx:∀x∈xs,RxK Q x
 ll:xs.length≤maxLen
theorem RxK.sub {Q Q':Assn}{x:Rx}(h:RxK Q x)(hs:Sub Q Q'):RxK Q' x:=⟨h.rd.sub hs,fun e he=>(h.labs e he).sub hs,h.val,h.ll⟩
theorem XsK.sub {Q Q':Assn}{a:Option Addr}{xs:List Rx}(h:XsK Q a xs)(hs:Sub Q Q'):XsK Q' a xs:=⟨h.rd.sub hs,fun x hx=>(h.rx x hx).sub hs,h.ll⟩
def grL (l:Lab):Bool:=decide (300 < (l.name.size:Int)) || decide (300 < (l.value.size:Int))
def grS (name:ByteArray)(labs:List Lab):Bool:=decide (100 < (labs.length:Int)) || decide (300 < (name.size:Int)) || labs.any grL
def grE (evs:List Ev):Bool:=decide (100 < (evs.length:Int)) || evs.any fun e=>grS e.name e.labs
def grC (c:Cfg)(n:Nat):Bool:=decide (80 < (n:Int)) || (decide (200 < c.cells) && decide (c.cells≤1024))
def grR (c:Cfg)(xs:List Rx):Bool:=grC c xs.length || xs.any fun x=>grE x.evs
theorem qk0 {α:Type}{p:α→Bool}{l:List α}(h:∀q (hq:q < l.length),p l[q]=false):l.any p=false:=by
 rw [List.any_eq_false];intro x hx;obtain⟨q,hq,rfl⟩:=zb0 hx;rw [h q hq]; simp
theorem qp5 {α:Type}{p:α→Bool}{l:List α}{q:Nat}(hq:q < l.length)(h:p l[q]=true):l.any p=true:=List.any_eq_true.2 ⟨_,z92 hq,h⟩
theorem grE_of {evs:List Ev}(h:grE evs=false):evs.length≤100∧∀e∈evs,e.labs.length≤100∧e.name.size≤300∧∀l∈e.labs,l.name.size≤300∧l.value.size≤300:=by
 unfold grE at h;rw [z94,z8x,List.any_eq_false] at h;refine⟨by omega,fun e he=>?_⟩
 have:=h.2 e he;unfold grS at this;simp only [zbd,z94,z8x,List.any_eq_false] at this;refine⟨by omega,by omega,fun l hl=>?_⟩
 have:=this.2 l hl;unfold grL at this;simp only [zbd,z94,z8x] at this;omega
theorem grR_of {c:Cfg}{xs:List Rx}(h:grR c xs=false):xs.length≤80∧∀x∈xs,grE x.evs=false:=by
 unfold grR grC at h;simp only [z94,z8x,List.any_eq_false,zbd] at h;exact⟨by omega,h.2⟩
theorem RxK.vals {Q:Assn}{x:Rx}(h:RxK Q x):∀e∈x.p.evs,wf64 e.value:=by
 intro e he;obtain⟨v,hv,rfl⟩:=z90.1 he;exact h.val v hv
end Go.Nm
namespace Go.Proofs.YtfmkddccnjidmaaGreatDoor
open Go.Nm
section
variable {F L:List Assn} {H H0:Heap} {K KP:Value→Heap→Prop} {Q Q':Assn} {sb:Nat} {s:Sta}
theorem qgf {name:ByteArray}{labs:List Lab}{a:Option Addr}{c:Nat}(h:SatL H F)(ha:∀H,SatL H F→rdS H a (flat encL labs))(hl:labs.length≤maxLen)(k:∀H',SatL H' F→K (.bool (grS name labs)) H') :
  CF 99 #[.agg #[.string name,.slice a labs.length c]] H K:=by
 refine z61 ?_;unfold grS at k;refine h.al fun b _ h=>⟨_,_,_,h.r 0,_,fun _=>h.r 0,fun hc=>?_,fun hc=>?_⟩
 ·rw [hc,Bool.true_or] at k;exact k _ h.tl
 rw [hc,Bool.false_or] at k;rw [z94,z8x] at hc;refine⟨fun i H'=>∃j:Nat,i=j∧j≤labs.length∧(∀q (hq:q < labs.length),q < j→grL labs[q]=false)∧SatL H' (cellsA b [.string name,.slice a labs.length c] 93::F),fun i _=>labs.length - i.toNat,⟨0,rfl,by omega,fun q _ h=>by omega,h⟩,?_⟩
 rintro i H' ⟨j,rfl,hj,hq,h⟩;refine⟨_,_,_,h.r 0,fun hc=>?_,fun hc=>?_⟩
 ·have hlt:j < labs.length:=by have:=z8s hc; omega
  have hr:=ha H' h.tl;have e1:=hr.el0 q1b hlt (v:=.string labs[j].name) rfl;have e2:=hr.el q1b hlt 1 (v:=.string labs[j].value) rfl;refine⟨_,_,_,h.r 0,by omega,_,_,hr.some q1b (by omega) hlt,_,by simpa using e1,_,_,_,fun _=>h.r 0,fun _=>by omega,_,_,fun _=>hr.some q1b (by omega) hlt,_,fun _=>by simpa using e2,fun hg=>?_,fun hg=>?_⟩
  ·rw [qp5 hlt hg] at k;exact k _ h.tl
  ·rw [w64 (by omega) (by unfold maxLen at *; omega)];refine⟨⟨j+1,by omega,hlt,fun q hq2 hqj=>?_,h⟩,by dsimp only; omega⟩
   rcases z9h q j with h1|h1
   ·exact hq q hq2 h1
   ·obtain rfl:q=j:=by omega
    exact hg
 ·have hge:labs.length≤j:=by have:=z8v hc; omega
  rw [qk0 fun q hq2=>hq q hq2 (by omega)] at k
  exact k _ h.tl
theorem qt8 {evs:List Ev}{a:Option Addr}{c:Nat}(h:SatL H F)(ha:∀H,SatL H F→rdS H a (flat encV evs))(hb:∀e∈evs,(∀H,SatL H F→rdS H e.la (flat encL e.labs))∧e.labs.length≤maxLen)(k:∀H',SatL H' F→K (.bool (grE evs)) H') :
  CF 36 #[.agg #[I64 0,I64 0,I64 0,I64 0,I64 0,I64 0,I64 0,I64 0,I64 0,I64 0,.slice a evs.length c,.string ⟨#[]⟩,.slice none 0 0,.slice none 0 0]] H K:=by
 refine z62 ?_;unfold grE at k;refine h.al fun b _ h=>?_
 intro Jn hJ;refine⟨_,_,_,h.r 0,_,_,_,fun _=>h.r 0,_,_,_,_,fun _=>h.q 0,fun hc=>?_,fun hc=>?_⟩
 ·have hc1:decide (100 < (evs.length:Int))=false:=(z94.1 hc).1;rw [hc1,Bool.false_or] at k;refine qgf (labs:=[]) h (fun H _=>q9p H _) (by simp) fun H2 h=>⟨_,rfl,hJ _ _ ?_⟩
  refine⟨fun hf=>absurd hf (by decide),fun _=>?_⟩
  rw [z8x] at hc1;refine⟨fun i H'=>∃j:Nat,i=j∧j≤evs.length∧(∀q (hq:q < evs.length),q < j→grS evs[q].name evs[q].labs=false)∧SatL H' (cellsA b [I64 0,I64 0,I64 0,I64 0,I64 0,I64 0,I64 0,I64 0,I64 0,I64 0,.slice a evs.length c,.string ⟨#[]⟩,.slice none 0 0,.slice none 0 0] 104::F),fun i _=>evs.length - i.toNat,⟨0,rfl,by omega,fun q _ h=>by omega,h⟩,?_⟩
  rintro i H' ⟨j,rfl,hj,hq,h⟩;refine⟨_,_,_,h.r 0,fun hc=>?_,fun hc=>?_⟩
  ·have hlt:j < evs.length:=by have:=z8s hc; omega
   have hr:=ha H' h.tl;have e1:=hr.el q0t hlt 2 (v:=.string evs[j].name) rfl;have e2:=hr.el q0t hlt 3 (v:=.slice evs[j].la evs[j].labs.length evs[j].lc) rfl;obtain⟨g1,g2⟩:=hb _ (z92 hlt);refine⟨_,_,_,h.r 0,by omega,_,_,hr.some q0t (by omega) hlt,_,_,_,_,⟨e1,e2⟩,?_⟩;refine qgf (name:=evs[j].name) (labs:=evs[j].labs) h (fun H h=>g1 H h.tl) g2 fun H2 h=>⟨_,rfl,fun hg=>?_,fun hg=>?_⟩
   ·rw [qp5 (p:=fun e=>grS e.name e.labs) hlt hg] at k
    exact k _ h.tl
   ·rw [w64];refine⟨⟨j+1,by omega,hlt,fun q hq2 hqj=>?_,h⟩,by dsimp only; omega⟩
    rcases z9h q j with h1|h1
    ·exact hq q hq2 h1
    ·obtain rfl:q=j:=by omega
     exact hg
  ·have hge:evs.length≤j:=by have:=z8v hc; omega
   rw [qk0 (p:=fun e=>grS e.name e.labs) fun q hq2=>hq q hq2 (by omega)] at k
   exact k _ h.tl
 ·have hc1:decide (100 < (evs.length:Int))=true:=by
   rw [z94] at hc
   cases e:decide (100 < (evs.length:Int)) with
   | true=>rfl
   | false=>exact absurd ⟨e,by simp⟩ hc
  rw [hc1,Bool.true_or] at k;refine hJ _ _ ?_;exact⟨fun _=>k _ h.tl,fun hf=>absurd hf (by decide)⟩
theorem z3n {cf:Cfg}{a:Option Addr}{c:Nat}{xs:List Rx}(h:SatL H (Q::F))(hx:XsK Q a xs)(k:∀H',SatL H' (Q::F)→K (.bool (grR cf xs)) H') :
  CF 10 #[.agg ⟨qgr cf⟩,.slice a xs.length c] H K:=by
 refine Great_c ?_;unfold grR grC at k;refine h.al fun b _ h=>⟨_,fun _=>h.r 0,_,fun _=>h.r 0,fun hc=>?_,fun hc=>?_⟩
 ·rw [hc,Bool.true_or] at k;exact k _ h.tl
 rw [hc,Bool.false_or] at k;refine⟨fun i H'=>∃j:Nat,i=j∧j≤xs.length∧(∀q (hq:q < xs.length),q < j→grE xs[q].evs=false)∧SatL H' (cellsA b (qgr cf) 23::Q::F),fun i _=>xs.length - i.toNat,⟨0,rfl,by omega,fun q _ h=>by omega,h⟩,?_⟩
 rintro i H' ⟨j,rfl,hj,hq,h⟩;refine⟨fun hc=>?_,fun hc=>?_⟩
 ·have hlt:j < xs.length:=by have:=z8s hc; omega
  have hr:=hx.rd.at h 1 rfl;have e1:=hr.el qee hlt 11 (v:=.slice xs[j].ea xs[j].evs.length xs[j].ec) rfl;refine⟨by omega,_,_,hr.some qee (by omega) hlt,_,_,_,by simpa using e1,?_⟩;have hxj:=hx.rx _ (z92 hlt);refine qt8 (evs:=xs[j].evs) h (fun H h=>hxj.rd.at h 1 rfl) (fun e he=>⟨fun H h=>(hxj.labs e he).at h 1 rfl,hxj.ll e he⟩) fun H2 h=>⟨_,rfl,fun hg=>?_,fun hg=>?_⟩
  ·rw [qp5 (p:=fun x=>grE x.evs) hlt hg] at k
   exact k _ h.tl
  ·rw [w64 (by omega) (by have:=hx.ll; unfold maxLen at *; omega)];refine⟨⟨j+1,by omega,hlt,fun q hq2 hqj=>?_,h⟩,by dsimp only; omega⟩
   rcases z9h q j with h1|h1
   ·exact hq q hq2 h1
   ·obtain rfl:q=j:=by omega
    exact hg
 ·have hge:xs.length≤j:=by have:=z8v hc; omega
  rw [qk0 (p:=fun x=>grE x.evs) fun q hq2=>hq q hq2 (by omega)] at k
  exact k _ h.tl
set_option maxHeartbeats 2000000 in
theorem Own_spec {x:Rx}(h:SatL H (Q::F))(hx:RxK Q x)(hE:grE x.evs=false)
  (k:∀Q' a' c' evs' H',Sub Q Q'→(∀F',z3d Q' (slA 95 4 a' evs'.length c' (flat encV evs')::F') x.p a' evs')→SatL H' (Q'::slA 95 4 a' evs'.length c' (flat encV evs')::F)→K (.agg ⟨encR x.p a' c'⟩) H') :
  CF 18 #[.agg ⟨encX x⟩] H K:=by
 obtain⟨g1,g2⟩:=grE_of hE;refine Own_c ?_;refine h.al fun b _ h=>?_
 refine h.al fun b1 _ h=>?_
 refine h.al fun b2 _ h=>?_
 have h0:=SatL.sl_pt (cs:=[]) h 4 0 rfl;refine⟨fun la ln lc i H'=>∃(j:Nat) (Q':Assn) (evs':List Ev),i=j∧ln=evs'.length∧j=evs'.length∧j≤x.evs.length∧Sub Q Q'∧evs'.map Ev.p=(x.evs.take j).map Ev.p∧(∀e∈evs',q5z Q' e)∧
  SatL H' (Q'::slA 95 4 la evs'.length lc (flat encV evs')::cellsA b1 [I64 0,I64 0,I64 0,I64 0,I64 0,I64 0,I64 0,I64 0,I64 0,I64 0,I64 0,.slice none 0 0] 46::cellsA b (encX x) 46::F),fun la ln lc i _=>x.evs.length - i.toNat,
  ⟨0,Q,[],rfl,rfl,rfl,by omega,Sub.refl Q,rfl,(fun e he=>absurd he (by simp)),h0.o [3,0,1,2] 4⟩,?_⟩
 rintro la ln lc i H2 ⟨j,Q',evs',rfl,rfl,hje,hj,hsub,hmap,hlab,h⟩;refine⟨_,_,_,h.r 3,fun hc=>?_,fun hc=>?_⟩
 ·have hlt:j < x.evs.length:=by have:=z8s hc; omega
  have hr:=(hx.rd.sub hsub).at h 0 rfl;have hev:=hr.els q0t hlt;refine⟨_,_,_,h.r 3,by omega,_,_,hr.some q0t (by omega) hlt,_,_,_,_,_,_,by simpa using hev,?_⟩;have hmem:=z92 hlt;generalize hE:x.evs[j]=e at *;refine h.al fun b4 _ h=>?_
  refine h.st 0 rfl rfl ?_;intro H3 h;refine h.al fun b5 _ h=>⟨_,_,_,h.r 1,?_⟩
  have h:=SatL.sl_pt (cs:=[]) h 2 0 rfl;have hlb:=((hx.labs e hmem).sub hsub).at h 2 rfl;have hg:=g2 e hmem;refine h.append sl91 0 rfl hlb (by rw [q0l q1b]) (q48 (fun _=>rfl) _) (by omega) (by omega) fun a5 c5 H4 h=>⟨_,_,_,rfl,?_⟩
  refine h.st 1 rfl rfl ?_;intro H5 h;refine⟨_,_,_,_,_,_,h.q 1,?_⟩;refine h.al fun b6 _ h=>?_
  refine h.append (m:=1) (ws:=[I64 e.stamp,I64 e.value,.string e.name,.slice a5 (0+e.labs.length) c5]) sl44 4 rfl (h.ce_rd 0 rfl) rfl rfl (by omega) (by omega) fun a6 c6 H6 h=>⟨_,_,_,rfl,?_⟩
  rw [w64];have hQ:SatL H6 ((slA 267 2 a5 (0+e.labs.length) c5 ([]++flat encL e.labs)*Q')::slA 95 4 a6 (evs'.length+1) c6 (flat encV evs'++[I64 e.stamp,I64 e.value,.string e.name,.slice a5 (0+e.labs.length) c5])::cellsA b1 [I64 0,I64 0,I64 0,I64 0,I64 0,I64 0,I64 0,I64 0,I64 0,I64 0,I64 0,.slice none 0 0] 46::cellsA b (encX x) 46::F):=
   q1z.2 (h.o [1,3,4,5,6] 7)
  rw [z9e,za7] at hQ;refine⟨⟨j+1,slA 267 2 a5 e.labs.length c5 (flat encL e.labs)*Q',evs'++[⟨e.stamp,e.value,e.name,e.labs,a5,c5⟩],by omega,by simp,by simp [hje],hlt,hsub.trans (Sub.add _ Q'),?_,?_,?_⟩,by dsimp only; omega⟩
  ·rw [z9k,hmap,zae,List.getElem?_eq_getElem hlt,z9k,hE]; rfl
  ·intro e' he'
   rcases za4.1 he' with he'|he'
   ·exact (hlab e' he').sub (Sub.add _ Q')
   ·rw [z9q] at he';subst he';exact KIn.sl
  ·have ef:flat encV (evs'++[⟨e.stamp,e.value,e.name,e.labs,a5,c5⟩])=flat encV evs'++[I64 e.stamp,I64 e.value,.string e.name,.slice a5 e.labs.length c5]:=by rw [q0k]; simp [flat]
   rw [ef,z8t];exact hQ
 ·have hge:x.evs.length≤j:=by have:=z8v hc; omega
  have hjx:evs'.length=x.evs.length:=by omega
  refine h.st 3 rfl rfl ?_;intro H3 h;refine⟨_,_,_,_,_,_,_,_,_,_,_,_,_,_,h.q 3,?_⟩;refine h.st 2 rfl rfl ?_;intro H4 h;refine⟨_,_,_,_,_,_,_,_,_,_,_,_,_,_,h.q 2,?_⟩;rw [z9f (by omega)] at hmap;have hp:x.p.evs.length=evs'.length:=by show (x.evs.map Ev.p).length=_; rw [z9c,hjx]
  have:=k Q' la lc evs' H4 hsub (fun _=>⟨hmap.symm,fun H h=>h.sl_rd 0 rfl,hlab,by omega,hx.vals⟩) (h.o [0,1] 4)
  simp only [encR,hp] at this;exact this
end
open Go.Nm
section
variable {H:Type} {enc:TypeId × Value→H} {W:World}
theorem okWide_agg {P:Program}{w:World}{r:Reach}{base:Nat}{t:TypeId}{v:Value}{fs:Array Field}(ht:P.underlying t=some (.struct fs))(h:Value.okWide P w r base t v):∃cs,v=.agg cs:=by
 simp only [Value.okWide,ht] at h;obtain⟨cs,h,_⟩:=h;exact⟨cs,h⟩
theorem reads_cfg {cs:List Value}(h:qc3 enc Tryz.prog W 23 cs):∃cf:Cfg,cs=qgr cf:=by
 obtain⟨hl,hf⟩:=q49 Tryz.underlying23 h;have c2:Tryz.prog.cellsOf 2=1:=by kernel_rfl
 have c3:Tryz.prog.cellsOf 3=1:=by kernel_rfl
 have c23:Tryz.prog.cellsOf 23=9:=by kernel_rfl
 rw [c23] at hl;simp only [z96,zak,or_false,forall_eq_or_imp,forall_eq,c2,c3] at hf;obtain⟨f1,f2,f3,f4,f5,f6,f7,f8,f9⟩:=hf
 match cs,hl with
 | [x1,x2,x3,x4,x5,x6,x7,x8,x9],_=>
  simp only [List.drop_zero,zat,zaj,zax] at f1 f2 f3 f4 f5 f6 f7 f8 f9;obtain⟨n1,e1,_,_⟩:=q0q Tryz.underlying2 f1;obtain⟨n2,e2,_,_⟩:=q0q Tryz.underlying3 f2;obtain⟨n3,e3,_,_⟩:=q0q Tryz.underlying2 f3;obtain⟨n4,e4,_,_⟩:=q0q Tryz.underlying2 f4;obtain⟨n5,e5,_,_⟩:=q0q Tryz.underlying2 f5;obtain⟨n6,e6,_,_⟩:=q0q Tryz.underlying3 f6;obtain⟨n7,e7,_,_⟩:=q0q Tryz.underlying3 f7;obtain⟨n8,e8,_,_⟩:=q0q Tryz.underlying3 f8;obtain⟨n9,e9,_,_⟩:=q0q Tryz.underlying3 f9;simp only [List.cons.injEq,and_true] at e1 e2 e3 e4 e5 e6 e7 e8 e9;subst e1 e2 e3 e4 e5 e6 e7 e8 e9;exact⟨⟨n1,n2,n3,n4,n5,n6,n7,n8,n9⟩,rfl⟩
theorem z3o {cs:List Value}(h:qc3 enc Tryz.prog W 91 cs):∃a c ls,cs=[.slice a (List.length ls) c]∧ls.length≤maxLen∧rdS W.heap a (flat encL ls):=by
 obtain⟨a,c,xs,h1,h2,h3,_⟩:=qet (ec:=encL) (Q:=fun _=>True) Tryz.underlying91 (sz:=2) (by kernel_rfl) (by decide) h (fun vs hv hl=>by
  obtain⟨_,hf⟩:=q49 Tryz.underlying267 hv;have c9:Tryz.prog.cellsOf 9=1:=by kernel_rfl
  simp only [z96,zak,or_false,forall_eq_or_imp,forall_eq,c9] at hf;obtain⟨f1,f2⟩:=hf
  match vs,hl with
  | [x1,x2],_=>
   simp only [List.drop_zero,zat,zaj,zax] at f1 f2;obtain⟨s1,e1,_⟩:=q9y Tryz.underlying9 f1;obtain⟨s2,e2,_⟩:=q9y Tryz.underlying9 f2;simp only [List.cons.injEq,and_true] at e1 e2;subst e1 e2;exact⟨⟨s1,s2⟩,rfl,trivial⟩) q1b
 exact⟨a,c,xs,h1,h2,h3⟩
structure EvH (H0:Heap)(e:Ev):Prop where
 labs:rdS H0 e.la (flat encL e.labs)
 val:wf64 e.value
 ll:e.labs.length≤maxLen
structure RxH (H0:Heap)(x:Rx):Prop where
 rd:rdS H0 x.ea (flat encV x.evs)
 ev:∀e∈x.evs,EvH H0 e
theorem RxH.k {H0:Heap}{x:Rx}(h:RxH H0 x):RxK (old H0) x:=⟨KIn.old h.rd,fun e he=>KIn.old (h.ev e he).labs,fun e he=>(h.ev e he).val,fun e he=>(h.ev e he).ll⟩
theorem xsK_old {H0:Heap}{a:Option Addr}{xs:List Rx}(h1:xs.length≤maxLen)(h2:rdS H0 a (flat encX xs))(h3:∀x∈xs,RxH H0 x):XsK (old H0) a xs:=⟨KIn.old h2,fun x hx=>(h3 x hx).k,h1⟩
theorem qt9 {cs:List Value}(h:qc3 enc Tryz.prog W 44 cs):∃a c es,cs=[.slice a (List.length es) c]∧es.length≤maxLen∧rdS W.heap a (flat encV es)∧∀e∈es,EvH W.heap e:=by
 refine qet (ec:=encV) (Q:=EvH W.heap) Tryz.underlying44 (sz:=4) (by kernel_rfl) (by decide) h (fun vs hv hl=>?_) q0t
 obtain⟨_,hf⟩:=q49 Tryz.underlying95 hv;have c2:Tryz.prog.cellsOf 2=1:=by kernel_rfl
 have c93:Tryz.prog.cellsOf 93=2:=by kernel_rfl
 have c9:Tryz.prog.cellsOf 9=1:=by kernel_rfl
 have c91:Tryz.prog.cellsOf 91=1:=by kernel_rfl
 simp only [z96,zak,or_false,forall_eq_or_imp,forall_eq,c2,c93] at hf;obtain⟨f1,f2,f3⟩:=hf
 match vs,hl with
 | [x1,x2,x3,x4],_=>
  simp only [List.drop_zero,zat,zaj,zax] at f1 f2 f3;obtain⟨n1,e1,_,_⟩:=q0q Tryz.underlying2 f1;obtain⟨n2,e2,b1,b2⟩:=q0q Tryz.underlying2 f2;obtain⟨_,hg⟩:=q49 Tryz.underlying93 f3;simp only [z96,zak,or_false,forall_eq_or_imp,forall_eq,c9,c91] at hg;obtain⟨g1,g2⟩:=hg;simp only [List.drop_zero,zat,zaj,zax] at g1 g2;obtain⟨s1,e3,_⟩:=q9y Tryz.underlying9 g1;obtain⟨la,lc,ls,e4,hll,hr⟩:=z3o g2;simp only [List.cons.injEq,and_true] at e1 e2 e3 e4;subst e1 e2 e3 e4;exact⟨⟨n1,n2,s1,ls,la,lc⟩,rfl,hr,⟨b1,b2⟩,hll⟩
theorem z80 {cs:List Value}(h:qc3 enc Tryz.prog W 46 cs):∃x:Rx,cs=encX x∧RxH W.heap x:=by
 obtain⟨hl,hf⟩:=q49 Tryz.underlying46 h;have c2:Tryz.prog.cellsOf 2=1:=by kernel_rfl
 have c3:Tryz.prog.cellsOf 3=1:=by kernel_rfl
 have c43:Tryz.prog.cellsOf 43=4:=by kernel_rfl
 have c44:Tryz.prog.cellsOf 44=1:=by kernel_rfl
 have c46:Tryz.prog.cellsOf 46=12:=by kernel_rfl
 rw [c46] at hl;simp only [z96,zak,or_false,forall_eq_or_imp,forall_eq,c2,c3,c43,c44] at hf;obtain⟨f1,f2,f3,f4,f5,f6,f7,f8,f9⟩:=hf
 match cs,hl with
 | [x1,x2,x3,x4,x5,x6,x7,x8,x9,x10,x11,x12],_=>
  simp only [List.drop_zero,zat,zaj,zax] at f1 f2 f3 f4 f5 f6 f7 f8 f9;obtain⟨n1,e1,_,_⟩:=q0q Tryz.underlying3 f1;obtain⟨n2,e2,_,_⟩:=q0q Tryz.underlying2 f2;obtain⟨n3,e3,_,_⟩:=q0q Tryz.underlying2 f3;obtain⟨n4,e4,_,_⟩:=q0q Tryz.underlying2 f4;obtain⟨n5,e5,_,_⟩:=q0q Tryz.underlying2 f5;obtain⟨n6,e6,_,_⟩:=q0q Tryz.underlying2 f6;obtain⟨n7,e7,_,_⟩:=q0q Tryz.underlying2 f7;obtain⟨_,hg⟩:=q49 Tryz.underlying43 f8;simp only [z96,zak,or_false,forall_eq_or_imp,forall_eq,c2] at hg;obtain⟨g1,g2,g3,g4⟩:=hg;simp only [List.drop_zero,zat,zaj,zax] at g1 g2 g3 g4;obtain⟨n8,e8,_,_⟩:=q0q Tryz.underlying2 g1;obtain⟨n9,e9,_,_⟩:=q0q Tryz.underlying2 g2;obtain⟨n10,e10,_,_⟩:=q0q Tryz.underlying2 g3;obtain⟨n11,e11,_,_⟩:=q0q Tryz.underlying2 g4;obtain⟨ea,ec,es,e12,_,hr,hq⟩:=qt9 f9;simp only [List.cons.injEq,and_true] at e1 e2 e3 e4 e5 e6 e7 e8 e9 e10 e11 e12;subst e1 e2 e3 e4 e5 e6 e7 e8 e9 e10 e11 e12;exact⟨⟨n1,n2,n3,n4,n5,n6,n7,⟨n8,n9,n10,n11⟩,ea,ec,es⟩,rfl,hr,hq⟩
theorem reads_recs {cs:List Value}(h:qc3 enc Tryz.prog W 35 cs):∃a c xs,cs=[.slice a (List.length xs) c]∧xs.length≤maxLen∧rdS W.heap a (flat encX xs)∧∀x∈xs,RxH W.heap x:=
 qet (ec:=encX) (Q:=RxH W.heap) Tryz.underlying35 (sz:=12) (by kernel_rfl) (by decide) h (fun vs hv _=>z80 hv) qee
end
end Go.Proofs.YtfmkddccnjidmaaGreatDoor
namespace Go.Nm
open Go.Proofs.YtfmkddccnjidmaaGreatDoor
theorem bvI (x:Int):(BitVec.ofInt 64 x).toNat=(x % 18446744073709551616).toNat:=by rw [BitVec.toNat_ofInt]; rfl
theorem bv_ones:BitVec.ofInt 64 (18446744073709551615:Int)=BitVec.allOnes 64:=by decide
theorem bv_ones':BitVec.ofInt 64 (-1:Int)=BitVec.allOnes 64:=by decide
theorem z81:BitVec.ofInt 64 (0:Int)=0#64:=by decide
theorem z82 {x:Int}(h:0≤x∧x < 18446744073709551616):q0g .xor .u64 x 0=x:=by
 unfold q0g;show u64.wrap ((BitVec.ofInt 64 x ^^^ BitVec.ofInt 64 0).toNat:Int)=x;rw [z81,BitVec.xor_zero,bvI,u64e]; omega
theorem z83 {x:Int}(h:0≤x∧x < 18446744073709551616):q0g .xor .u64 x 18446744073709551615=18446744073709551615 - x:=by
 unfold q0g;show u64.wrap ((BitVec.ofInt 64 x ^^^ BitVec.ofInt 64 18446744073709551615).toNat:Int)=_;rw [bv_ones,BitVec.xor_allOnes,BitVec.toNat_not,bvI,u64e]; omega
theorem z84 {x:Int}(h:wf64 x):q0g .xor .i64 x 0=x:=by
 unfold q0g wf64 at *;show i64.wrap ((BitVec.ofInt 64 x ^^^ BitVec.ofInt 64 0).toNat:Int)=x;rw [z81,BitVec.xor_zero,bvI,i64e]; omega
theorem z85 {x:Int}(h:wf64 x):q0g .xor .i64 x (-1)=-x - 1:=by
 unfold q0g wf64 at *;show i64.wrap ((BitVec.ofInt 64 x ^^^ BitVec.ofInt 64 (-1)).toNat:Int)=_;rw [bv_ones',BitVec.xor_allOnes,BitVec.toNat_not,bvI,i64e]; omega
theorem andU_one {n:Nat}(h:n < 18446744073709551616):q0g .and .u64 (n:Int) 1=((n % 2:Nat):Int):=by
 have:=and64 (m:=1) h (by decide);rw [Nat.and_one_is_mod] at this;exact this
theorem turnI_eq {v:Int}(h:wf64 v):qvk v=if 0≤v then 2*v else -2*v - 1:=by
 unfold qvk;show q0g .xor .u64 (u64.wrap (u64.wrap v*2 ^ 1)) (u64.wrap (Int.fdiv v (2 ^ 63)))=_;unfold wf64 at h;have e2:((2:Int) ^ 63)=9223372036854775808:=by decide
 have e1:((2:Int) ^ 1)=2:=by decide
 rw [e1,e2]
 split
 ·have ed:Int.fdiv v 9223372036854775808=0:=by
   rw [zbb v (by decide)]; omega
  rw [ed,show u64.wrap 0=0 from rfl,z82 (z6n _),u64e,u64e]; omega
 ·have ed:Int.fdiv v 9223372036854775808=-1:=by
   rw [zbb v (by decide)]; omega
  rw [ed,show u64.wrap (-1)=18446744073709551615 from rfl,z83 (z6n _),u64e,u64e]; omega
theorem z3p {n:Nat}(h:n < 18446744073709551616):qfa n=if n % 2=0 then ((n / 2:Nat):Int) else -((n / 2:Nat):Int) - 1:=by
 unfold qfa;show q0g .xor .i64 (i64.wrap (Int.fdiv n (2 ^ 1))) (i64.wrap (0 - i64.wrap (q0g .and .u64 n 1)))=_;have e1:((2:Int) ^ 1)=2:=by decide
 rw [e1,andU_one h,zbb _ (by decide)];have hw:i64.wrap ((n:Int) / 2)=((n / 2:Nat):Int):=by rw [i64e]; omega
 rw [hw]
 split
 ·rename_i h0;rw [h0];show q0g .xor .i64 _ 0=_;exact z84 (by unfold wf64; omega)
 ·rename_i h0;have h1:n % 2=1:=by omega
  rw [h1];show q0g .xor .i64 _ (-1)=_;exact z85 (by unfold wf64; omega)
theorem qk1 {v:Int}(h:wf64 v):qfa (turnN v)=v:=by
 rw [z3p (qdt v)];have e:=qoi v;rw [turnI_eq h] at e;unfold wf64 at h
 split at e <;> split <;> omega
theorem qwu {u:Nat}(h:u < 18446744073709551616)(r:List Int):rdU 0 0 (q1m u++r)=.ok u (q1m u).length:=by
 have:=z5n (w:=u) (acc:=0) (i:=0) r (by simpa using h) (by omega) (by omega);simpa using this
theorem q67 {u:Nat}(h:u < 18446744073709551616)(r:List Int):uRes ⟨0,q1m u++r⟩=(u,⟨0,r⟩):=by
 unfold uRes;rw [if_neg (by simp),qwu h];simp
theorem z86 {v:Int}(h:wf64 v):i64.wrap ((u64N v:Nat):Int)=v:=by
 unfold wf64 at h;have:=qw3 v;rw [← this,u64e,i64e]; omega
theorem usB1 (v:Int):usB [v]=q1m (u64N v):=by simp [usB]
theorem q4s (v:Int)(l:List Int):usB (v::l)=usB [v]++usB l:=by simp [usB]
theorem intsB1 (v:Int):q2g [v]=q1m (turnN v):=by simp [q2g]
theorem z87 {v:Int}(h:0≤v)(h2:v < 18446744073709551616):((u64N v:Nat):Int)=v:=by
 rw [← qw3,u64e]; omega
theorem qhf {v:Int}(h:0≤v)(h2:v < 18446744073709551616)(r:List Int):numR ⟨0,usB [v]++r⟩=.ok (v,⟨0,r⟩):=by
 unfold numR;rw [usB1,q67 (qjf v),z87 h h2]; rfl
theorem q2e {v:Int}(h:wf64 v)(r:List Int):q1h ⟨0,usB [v]++r⟩=.ok (v,⟨0,r⟩):=by
 unfold q1h;rw [usB1,q67 (qjf v),z86 h]; rfl
theorem qal {v:Int}(h:wf64 v)(r:List Int):q70 ⟨0,q2g [v]++r⟩=.ok (v,⟨0,r⟩):=by
 unfold q70 iRes;rw [intsB1,q67 (qdt v),qk1 h]; rfl
theorem qp6 {m:Int}{n:Nat}(h:(n:Int)≤m)(h2:n < 18446744073709551616)(r:List Int):cRes m ⟨0,q1m n++r⟩=((n:Int),⟨0,r⟩):=by
 unfold cRes;rw [if_neg (by simp),qwu h2];dsimp only;rw [if_neg (by omega)];simp
theorem q88 {m:Int}{n:Nat}(h:(n:Int)≤m)(h2:n < 9223372036854775808)(r:List Int):q22 m ⟨0,usB [(n:Int)]++r⟩=.ok ((n:Int),⟨0,r⟩):=by
 unfold q22;have e:u64N (n:Int)=n:=by have:=z87 (v:=(n:Int)) (by omega) (by omega); omega
 rw [usB1,e,qp6 h (by omega)]; rfl
theorem qk2 {m v:Int}(h:0≤v∧v≤m)(h2:wf64 v)(r:List Int):upR m ⟨0,usB [v]++r⟩=.ok (v,⟨0,r⟩):=by
 unfold upR;rw [q2e h2];dsimp only;rw [if_pos (by simp [inM,h])]
theorem z3q (s:ByteArray):(q2j s).length=s.size:=by
 unfold q2j;simp
theorem qef {m:Int}{s:ByteArray}(h:(s.size:Int)≤m)(h2:s.size < 18446744073709551616)(r:List Int):tRes m ⟨0,q2m s++r⟩=(q2j s,⟨0,r⟩):=by
 unfold tRes q2m;rw [if_neg (by simp),z93,qwu h2];dsimp only;have hl:=z3q s;rw [if_neg (by omega),if_neg (by simp only [z8t]; omega)];rw [List.drop_left,List.take_append_of_le_length (by omega),z9f (by omega),← List.drop_drop,List.drop_left,← hl,List.drop_left]
theorem q8x (s:ByteArray):strB (q2j s)=s:=by
 unfold strB;apply ByteArray.ext;apply Array.toList_inj.1;rw [strOfNums_data];unfold q2j;apply za9
 ·simp
 ·intro i h1 h2;simp
open Go.Proofs.YtfmkddccnjidmaaGreatDoor
abbrev bL (l:List UInt8):ByteArray:=⟨l.toArray⟩
theorem qk3 (l:List UInt8):lsB (bL l)=l:=by simp [lsB,bL]
theorem qgg (s:ByteArray):bL (lsB s)=s:=by
 apply ByteArray.ext;simp [lsB,bL]
theorem qmi {s t:ByteArray}(h:lsB s=lsB t):s=t:=by rw [← qgg s,← qgg t,h]
theorem q4d (s t:ByteArray):lsB (s++t)=lsB s++lsB t:=by
 unfold lsB;rw [ByteArray.data_append,Array.toList_append]
theorem q5g (s:ByteArray)(i j:Nat):lsB (s.extract i j)=((lsB s).drop i).take (j - i):=by
 unfold lsB;rw [ByteArray.data_extract,Array.toList_extract]
theorem z88 {c:UInt8}{a b:List UInt8}(h:c∉a):idxU c (a++c::b)=a.length:=by
 unfold idxU;have e:(a++c::b).idxOf c=a.length:=by
  rw [List.idxOf_append,if_neg h,List.idxOf_cons_self]; omega
 rw [e,if_pos (by simp)]
theorem z89 {c:UInt8}{a:List UInt8}(h:c∉a):idxU c a=-1:=by
 unfold idxU;rw [if_neg];intro h2;exact h (List.idxOf_lt_length_iff.1 h2)
theorem z8a {c:UInt8}{s:ByteArray}{a b:List UInt8}(e:lsB s=a++c::b)(h:c∉a):cutS c s=(bL a,bL b,true):=by
 unfold cutS;have hs:s.size=a.length+(b.length+1):=by rw [← q57,e]; simp
 rw [e,z88 h,if_pos (by omega)];congr 1
 ·apply qmi;rw [q5g,e,qk3]; simp
 ·congr 1;apply qmi;rw [q5g,e,qk3];have:((a.length:Int)).toNat+1=a.length+1:=by omega
  rw [this,← List.drop_drop,List.drop_left,List.drop_one,List.tail_cons];exact z9f (by omega)
theorem cutS_no {c:UInt8}{s:ByteArray}(h:c∉lsB s):cutS c s=(s,⟨#[]⟩,false):=by
 unfold cutS;rw [z89 h,if_neg (by decide)]
theorem sufS_at {c:UInt8}{s:ByteArray}{a:List UInt8}(e:lsB s=a++[c]):sufS c s=(bL a,true):=by
 unfold sufS;have hs:s.size=a.length+1:=by rw [← q57,e]; simp
 have h1:s.extract (s.size - 1) s.size=(⟨#[c]⟩:ByteArray):=by
  apply qmi;rw [q5g,e,hs];simp
 rw [h1,if_pos (by simp; omega)];congr 1;apply qmi;rw [q5g,e,qk3,hs];simp
theorem join2 (p q:List UInt8)(r:List (List UInt8)):Go.Lib.join (p::q::r) [44]=p++44::Go.Lib.join (q::r) [44]:=by
 rw [Go.Lib.join_cons,Go.Lib.join_cons]; simp [Go.Lib.joinTail]
theorem qk4:∀{ps:List (List UInt8)} {n:Nat} {s:ByteArray},ps≠[]→(∀p∈ps,(44:UInt8)∉p)→ps.length≤n+1→lsB s=Go.Lib.join ps [44]→q4u n s=ps.map bL
 | [],_,_,h,_,_,_=>absurd rfl h
 | [p],n,s,_,hp,_,e=>by
  have e:lsB s=p:=by rw [e,Go.Lib.join_one]
  have hn:(44:UInt8)∉lsB s:=by rw [e]; exact hp p (z98 ..)
  have es:s=bL p:=by rw [← e,qgg]
  cases n with
  | zero=>simp [q4u,es]
  | succ n=>
   unfold q4u;rw [z89 hn,if_pos (by decide),es]; rfl
 | p::q::r,0,s,_,_,hl,_=>by simp at hl
 | p::q::r,n+1,s,_,hp,hl,e=>by
  have e:lsB s=p++44::Go.Lib.join (q::r) [44]:=by rw [e,join2]
  have hn:=hp p (z98 ..);have hs:s.size=p.length+((Go.Lib.join (q::r) [44]).length+1):=by rw [← q57,e]; simp
  unfold q4u;rw [e,z88 hn,if_neg (by omega)];have e1:s.extract 0 ((p.length:Int)).toNat=bL p:=by
   apply qmi;rw [q5g,e,qk3]; simp
  have e2:lsB (s.extract (((p.length:Int)).toNat+1) s.size)=Go.Lib.join (q::r) [44]:=by
   rw [q5g,e,z8z,← List.drop_drop,List.drop_left,List.drop_one,List.tail_cons];exact z9f (by omega)
  rw [e1,qk4 (n:=n) (by simp) (fun x hx=>hp x (z99 _ hx)) (by simpa using hl) e2]
  rfl
theorem qk5 {c:UInt8}(h:qs1 c=true):c≠44∧c≠61∧c≠123∧c≠125:=by
 unfold qs1 lowC at h;refine⟨?_,?_,?_,?_⟩ <;> (rintro rfl; revert h; decide)
theorem valC_not {c:UInt8}(h:valC c=true):c≠44∧c≠61∧c≠123∧c≠125:=by
 unfold valC at h;refine⟨?_,?_,?_,?_⟩ <;> (rintro rfl; revert h; decide)
theorem qfn {s:ByteArray}(h:q6u s=true):∀c∈lsB s,qs1 c=true:=by
 unfold q6u at h;simp only [z8w,z9v] at h;exact h.2
theorem qmj {l:Lab}(h:q4b l=true):(∀c∈lsB l.value,valC c=true)∧q6u l.name=true:=by
 unfold q4b at h;simp only [z8w,z9v] at h;exact⟨h.1.2,h.2⟩
theorem qhg (l:Lab):lsB (q5t l)=lsB l.name++61::lsB l.value:=by
 unfold q5t;rw [q4d,q4d,z93]; rfl
theorem partL_no {l:Lab}(h:q4b l=true):(44:UInt8)∉lsB (q5t l):=by
 obtain⟨h1,h2⟩:=qmj h;rw [qhg];simp only [za4,z96,not_or];exact⟨fun hm=>(qk5 (qfn h2 _ hm)).1 rfl,by decide,fun hm=>(valC_not (h1 _ hm)).1 rfl⟩
theorem qz0:∀{ps:List (List UInt8)},(∀p∈ps,1≤p.length)→ps.length≤(Go.Lib.join ps [44]).length
 | [],_=>by simp
 | [p],h=>by rw [Go.Lib.join_one]; have:=h p (z98 ..); simpa using this
 | p::q::r,h=>by
  have ih:=qz0 (ps:=q::r) fun x hx=>h x (z99 _ hx)
  rw [join2];simp only [z8y,z8t] at *;omega
theorem qwv {labs:List Lab}(hv:∀l∈labs,q4b l=true)(hl:labs.length≤8):q7g (labs.map q5t)=some labs:=by
 have key:∀j,j≤labs.length→q7g ((labs.take j).map q5t)=some (labs.take j):=by
  intro j
  induction j with
  | zero=>intro _; rfl
  | succ j ih=>
   intro hj;have ih:=ih (by omega);have hlt:j < labs.length:=by omega
   rw [zae,List.getElem?_eq_getElem hlt,Option.toList_some,z9k];unfold q7g at ih ⊢;rw [zb6,ih];show z2j (some (labs.take j)) (q5t labs[j])=_;have hv:=hv _ (z92 hlt);have h61:(61:UInt8)∉lsB labs[j].name:=fun hm=>(qk5 (qfn (qmj hv).2 _ hm)).2.1 rfl
   unfold z2j;rw [z8a (qhg labs[j]) h61];dsimp only;rw [z9d,if_pos (by simp; omega),qgg,qgg]
 have:=key labs.length (z91 _)
 rwa [zab] at this
theorem z3r {name:ByteArray}{labs:List Lab}(h:q3s name labs=true):q6z (q6v name labs)=(name,labs,true):=by
 have hp:=q7f h;have hn123:(123:UInt8)∉lsB name:=fun hm=>(qk5 (qfn hp.named _ hm)).2.2.1 rfl
 unfold q6v;rw [if_pos h]
 split
 ·rename_i h0;subst h0;unfold q6z;rw [cutS_no hn123];dsimp only;rw [if_neg (by simp),if_pos h]
 ·rename_i h0;have ej:lsB (qch labs)=Go.Lib.join ((labs.map q5t).map lsB) [44]:=qk3 _;have e1:lsB (((name++(⟨#[123]⟩:ByteArray))++qch labs)++(⟨#[125]⟩:ByteArray))=lsB name++123::(lsB (qch labs)++[125]):=by
   rw [q4d,q4d,q4d,z93,z93]; rfl
  have hj:q3y (qch labs)=labs.map q5t:=by
   have hps:∀p∈(labs.map q5t).map lsB,(44:UInt8)∉p∧1≤p.length:=by
    intro p hp';obtain⟨b,hb,rfl⟩:=z90.1 hp';obtain⟨l,hl,rfl⟩:=z90.1 hb;exact⟨partL_no (hp.val l hl),by rw [qhg]; simp; omega⟩
   have:=qz0 (ps:=(labs.map q5t).map lsB) fun p hp'=>(hps p hp').2
   have:=qk4 (ps:=(labs.map q5t).map lsB) (n:=(qch labs).size) (s:=qch labs) (by simpa using h0) (fun p hp'=>(hps p hp').1) (by rw [← q57,ej]; omega) ej
   unfold q3y;rw [this,z9r,z9r];apply zaq;intro l _;exact qgg _
  unfold q6z;rw [z8a e1 hn123];dsimp only;rw [if_pos rfl,sufS_at (qk3 _)];dsimp only;rw [if_pos rfl,qgg,hj,qwv hp.val hp.len,qgg];dsimp only;rw [if_pos h]
theorem qta {labs:List Lab}(hv:∀l∈labs,q4b l=true)(r:List Int):∀j,j≤labs.length→q3o j ⟨0,labs.flatMap labB++r⟩=(labs.take j,⟨0,(labs.drop j).flatMap labB++r⟩)
 | 0,_=>rfl
 | j+1,h=>by
  have ih:=qta hv r j (by omega);have hlt:j < labs.length:=by omega
  have hs:=q5b (hv _ (z92 hlt));have e:(labs.drop j).flatMap labB++r=q2m labs[j].name++(q2m labs[j].value++((labs.drop (j+1)).flatMap labB++r)):=by
   rw [z9z hlt,z9w]; simp [labB]
  unfold q3o;rw [ih];dsimp only;rw [e,qef (m:=64) (by omega) (by omega)];dsimp only;rw [qef (m:=64) (by omega) (by omega),q8x,q8x,zae,List.getElem?_eq_getElem hlt];rfl
theorem z8b {name:ByteArray}{labs:List Lab}(h:q3s name labs=true)(r:List Int):q5d ⟨0,serR name labs++r⟩=⟨name,labs,0,⟨0,r⟩⟩:=by
 have hp:=q7f h;have hs:=q5a hp.named;unfold serR;rw [if_pos h];have e:serB name labs++r=q2m name++(q1m labs.length++(labs.flatMap labB++r)):=by unfold serB; simp
 unfold q5d;rw [e,qef (m:=64) (by omega) (by omega)];dsimp only;have h8:=hp.len;rw [qp6 (m:=8) (by omega) (by omega)];dsimp only;rw [z8z,qta hp.val r labs.length (z91 _),zab,zao];dsimp only;rw [if_neg (by simp),q8x,if_pos h];rfl
open Go.Proofs.YtfmkddccnjidmaaGreatDoor
theorem dig (x m:Nat)(hm:0 < m):x / (m*256)*256+x / m % 256=x / m:=by
 rw [← Nat.div_div_eq_div_mul];have:=Nat.div_add_mod (x / m) 256;omega
theorem acc_dig {l:List Int}{x m:Nat}(hm:0 < m)(hx:x < 18446744073709551616)(h:accB l=x / (m*256)):accB (l++[((x / m % 256:Nat):Int)])=x / m:=by
 rw [q8p,h,z8z];have e:=dig x m hm;have:x / m≤x:=Nat.div_le_self _ _;rw [zal (by omega),e]
theorem z8c {x:Nat}(hx:x < 18446744073709551616):accB ((List.range 8).map fun p=>((x / 2 ^ (8*(7 - p)) % 256:Nat):Int))=x:=by
 have key:∀k,k≤8→accB ((List.range k).map fun p=>((x / 2 ^ (8*(7 - p)) % 256:Nat):Int))=x / 2 ^ (8*(8 - k)):=by
  intro k
  induction k with
  | zero=>
   intro _;show 0=_;rw [Nat.div_eq_of_lt (by simpa using hx)]
  | succ k ih=>
   intro hk;have ih:=ih (by omega);rw [List.range_succ,z9k];have e:2 ^ (8*(8 - k))=2 ^ (8*(7 - k))*256:=by
    have:8*(8 - k)=8*(7 - k)+8:=by omega
    rw [this,za3]
   rw [e] at ih;have:=acc_dig (zan _) hx ih;have e2:8 - (k+1)=7 - k:=by omega
   rw [e2];exact this
 have:=key 8 (z91 _);simpa using this
theorem z8d {z:Int}(h:q6s z):q5u (q3u z)=z:=by
 have e1:(q3u z).take 8=(List.range 8).map fun p=>(((whi z % B64).toNat / 2 ^ (8*(7 - p)) % 256:Nat):Int):=by
  apply za9
  ·simp [q3u]
  ·intro i h1 h2;have hi:i < 8:=by simpa using h2
   simp only [q3u,List.getElem_take,zaa,zbn];unfold wNat
   rw [if_pos hi]
 have e2:(q3u z).drop 8=(List.range 8).map fun p=>(((wlo z).toNat / 2 ^ (8*(7 - p)) % 256:Nat):Int):=by
  apply za9
  ·simp [q3u]
  ·intro i h1 h2;have hi:i < 8:=by simpa using h2
   simp only [q3u,List.getElem_drop,zaa,zbn];unfold wNat
   rw [if_neg (by omega)];have:15 - (8+i)=7 - i:=by omega
   rw [this]
 have hl:=q5r z;have hh:0≤whi z % B64∧whi z % B64 < B64:=⟨Int.emod_nonneg _ (by decide),Int.emod_lt_of_pos _ (by decide)⟩;unfold q5u;simp only [whi,wlo,B64] at hl hh e1 e2 ⊢;rw [e1,e2,z8c (by omega),z8c (by omega)];unfold q6s at h;rw [i64e];omega
def prsF (h:Nat→Int):Nat→Nat→List (Nat × Nat)
 | _,0=>[]
 | a,n+1=>(if h a=0 then [] else [(a,(h a).toNat)])++prsF h (a+1) n
def flP (l:List (Nat × Nat)):List Nat:=l.flatMap fun p=>[p.1,p.2]
theorem z3s (a b:List (Nat × Nat)):flP (a++b)=flP a++flP b:=by simp [flP]
theorem flP_len (l:List (Nat × Nat)):(flP l).length=2*l.length:=by
 induction l with
 | nil=>rfl
 | cons p r ih=>
  show (p.1::p.2::flP r).length=_;simp only [z8y,ih]; omega
theorem qmk (h:Nat→Int):∀n a,flP (prsF h a n)=(List.range' a n).flatMap fun i=>if h i=0 then [] else [i,(h i).toNat]
 | 0,a=>rfl
 | n+1,a=>by
  rw [List.range'_succ,z9w,← qmk h n (a+1)];show flP ((if h a=0 then [] else [(a,(h a).toNat)])++prsF h (a+1) n)=_
  rw [z3s];congr 1
  split <;> rfl
theorem fullP_eq (h:Nat→Int)(n:Nat):q7o h n=flP (prsF h 0 n):=by
 rw [qmk,← List.range_eq_range']; rfl
theorem qz1 (h:Nat→Int):∀n a,(prsF h a n).length≤n
 | 0,a=>z91 _
 | n+1,a=>by
  have:=qz1 h n (a+1);unfold prsF;rw [z8t]
  split <;> simp <;> omega
theorem z8e {h:Nat→Int}:∀{n a:Nat} {p:Nat × Nat},p∈prsF h a n→a≤p.1∧p.1 < a+n∧h p.1≠0∧p.2=(h p.1).toNat
 | 0,a,p,hp=>by cases hp
 | n+1,a,p,hp=>by
  unfold prsF at hp
  rcases za4.1 hp with hp|hp
  ·split at hp
   ·cases hp
   ·rename_i h0;rw [z9q] at hp;subst hp;exact⟨z91 _,by omega,h0,rfl⟩
  ·have:=z8e hp;exact⟨by omega,by omega,this.2.2.1,this.2.2.2⟩
theorem qp7 {h:Nat→Int}(hw:∀i,i < 65→0≤h i∧h i≤9223372036854775807):∀{n a:Nat} {prev:Option Nat} {g:Nat→Int},a+n≤65→(∀x,prev=some x→x < a)→
  qjm (prsF h a n) prev g=some fun i=>if a≤i∧i < a+n∧h i≠0 then h i else g i
 | 0,a,prev,g,hn,hp=>by
  show some g=_;congr 1;funext i;rw [if_neg (by omega)]
 | n+1,a,prev,g,hn,hp=>by
  unfold prsF
  split
  ·rename_i h0;rw [za7,qp7 hw (by omega) fun x hx=>by have:=hp x hx; omega]
   congr 1;funext i
   by_cases hi:i=a
   ·subst hi;rw [if_neg (by omega),if_neg (by simp [h0])]
   ·by_cases hc:a≤i∧i < a+(n+1)∧h i≠0
    ·rw [if_pos ⟨by omega,by omega,hc.2.2⟩,if_pos hc]
    ·rw [if_neg (fun hh=>hc ⟨by omega,by omega,hh.2.2⟩),if_neg hc]
  ·rename_i h0;have hb:=hw a (by omega);show qjm ((a,(h a).toNat)::prsF h (a+1) n) prev g=_;unfold qjm;rw [if_neg (by
    intro hc
    rcases hc with hc|hc
    ·unfold qsd at hc
     split at hc
     ·rename_i x;have:=hp x rfl;have:=z8s hc;omega
     ·cases hc
    ·omega),if_neg (by omega),qp7 hw (by omega) fun x hx=>by cases hx; omega]
   congr 1;funext i
   by_cases hi:i=a
   ·subst hi;rw [if_neg (by omega),if_pos ⟨by omega,by omega,h0⟩];unfold updN;rw [if_pos rfl]; omega
   ·by_cases hc:a≤i∧i < a+(n+1)∧h i≠0
    ·rw [if_pos ⟨by omega,by omega,hc.2.2⟩,if_pos hc]
    ·rw [if_neg (fun hh=>hc ⟨by omega,by omega,hh.2.2⟩),if_neg hc]
     unfold updN;rw [if_neg hi]
theorem qml (r:List Int):∀{l:List (Nat × Nat)},(∀p∈l,p.1 < 18446744073709551616∧p.2 < 18446744073709551616)→qaf l.length ⟨0,q2d (flP l)++r⟩=(l,⟨0,r⟩)
 | [],_=>rfl
 | p::l,h=>by
  have h1:=h p (z98 ..);have ih:=qml r (l:=l) fun q hq=>h q (z99 _ hq)
  have e:q2d (flP (p::l))++r=q1m p.1++(q1m p.2++(q2d (flP l)++r)):=by
   show q2d (p.1::p.2::flP l)++r=_;simp [q2d]
  show qaf (l.length+1) _=_;unfold qaf;rw [e,q67 h1.1];dsimp only;rw [q67 h1.2];dsimp only;rw [ih]
def CH (c:Cl):Prop:=∀i,65≤i→c.h i=0
theorem z8f {c:Cl}(wc:WC c)(hr:q3e c=true)(hc:CH c):q74 (q36 c)=(c,0):=by
 obtain⟨p1,p2,p3,p4⟩:=qfc hr;have hn:=wc.n; have hce:=wc.cer; have hpo:=wc.pos;unfold wf64 at hn hce hpo;have hh:∀i,i < 65→0≤c.h i∧c.h i≤9223372036854775807:=fun i hi=>⟨p4 i hi,(wc.h i hi).2⟩
 have hpl:=qz1 c.h 65 0;have hpr:∀p∈prsF c.h 0 65,p.1 < 18446744073709551616∧p.2 < 18446744073709551616:=by
  intro p hp;obtain⟨a1,a2,a3,a4⟩:=z8e hp;have:=hh p.1 (by omega);exact⟨by omega,by omega⟩
 have e:q36 c=q1m c.n.toNat++(q1m c.cer.toNat++(q1m c.pos.toNat++(q2g [c.mn]++(q2g [c.mx]++(q2m (strB (q3u c.sum))++(q1m (prsF c.h 0 65).length++(q2d (flP (prsF c.h 0 65))++[]))))))):=by
  unfold q36;rw [if_pos hr,fullP_eq,flP_len];have:2*(prsF c.h 0 65).length / 2=(prsF c.h 0 65).length:=by omega
  rw [this];simp [q2d,q2g]
 have hsz:(strB (q3u c.sum)).size=16:=by rw [q4q,q85]
 have hbi:q2j (strB (q3u c.sum))=q3u c.sum:=by
  unfold q2j;rw [show (strB (q3u c.sum)).data.toList=(q3u c.sum).map fun n=>UInt8.ofNat n.toNat from strOfNums_data _,z9r]
  apply za9 (by simp);intro i h1 h2;simp only [zaa,Function.comp];exact qh4 (qvn c.sum) i h2
 have s1:=fun r=>qal wc.mn r
 have iRes_enc:∀{v:Int} (h:wf64 v) (r:List Int),iRes ⟨0,q2g [v]++r⟩=(v,⟨0,r⟩):=by
  intro v h r;unfold iRes;rw [intsB1,q67 (qdt v),qk1 h]
 rw [e];unfold q74;dsimp only;rw [q67 (by omega)];dsimp only;rw [q67 (by omega)];dsimp only;rw [q67 (by omega)];dsimp only;rw [iRes_enc wc.mn];dsimp only;rw [iRes_enc wc.mx];dsimp only;rw [qef (m:=16) (by omega) (by omega)];dsimp only;rw [qp6 (m:=65) (by omega) (by omega)];dsimp only;rw [z8z,qml [] hpr];dsimp only;rw [show (q21 ⟨0,[]⟩).e=0 from rfl,if_neg (by simp)];unfold qfg;rw [if_neg (by omega),hbi,if_neg (by rw [q85]; simp),qp7 hh (by omega) (fun x hx=>by cases hx)]
 dsimp only;have hf:(fun i=>if 0≤i∧i < 0+65∧c.h i≠0 then c.h i else Z0 i)=c.h:=by
  funext i
  by_cases h65:i < 65
  ·by_cases h0:c.h i=0
   ·rw [if_neg (by simp [h0]),h0]
   ·rw [if_pos ⟨by omega,by omega,h0⟩]
  ·rw [if_neg (by omega),hc i (by omega)]
 rw [hf,z8d wc.sum,zbl p1,zbl p2,zbl p3];rw [if_pos hr]
open Go.Proofs.YtfmkddccnjidmaaGreatDoor
theorem qz2 {e:Pv}(h:q7p e=true):(0≤e.stamp∧e.stamp≤4611686018427387903)∧q3s e.name e.labs=true:=by
 unfold q7p at h;simp only [z8w,z8u] at h;exact h
theorem qmm {e:Pv}(h:q7p e=true)(hv:wf64 e.value)(r:List Int):q4w ⟨0,evB e++r⟩=.ok (e,⟨0,r⟩):=by
 obtain⟨h1,h2⟩:=qz2 h;have e1:evB e++r=usB [e.stamp]++(q2g [e.value]++(serR e.name e.labs++r)):=by unfold evB; simp
 unfold q4w;rw [e1,q2e (by unfold wf64; omega)];dsimp only;rw [qal hv];dsimp only;rw [z8b h2];rfl
theorem smpR_enc {x:Smp}(h:x.ok)(r:List Int):smpR ⟨0,smB x++r⟩=.ok (x,⟨0,r⟩):=by
 have hw:=h.wf;unfold Smp.wf at hw;have e1:smB x++r=usB [x.asked]++(usB [x.got]++(usB [x.sent]++(usB [x.came]++r))):=by simp [smB,usB]
 unfold smpR;rw [e1,q2e hw.1];dsimp only;rw [q2e hw.2.1];dsimp only;rw [q2e hw.2.2.1];dsimp only;rw [q2e hw.2.2.2]
theorem qtb {l:List Smp}(h:∀x∈l,x.ok)(r:List Int):∀j,j≤l.length→qak j ⟨0,l.flatMap smB++r⟩=.ok (l.take j,⟨0,(l.drop j).flatMap smB++r⟩)
 | 0,_=>rfl
 | j+1,hj=>by
  have hlt:j < l.length:=by omega
  unfold qak;rw [qtb h r j (by omega)];dsimp only;rw [z9z hlt,z9w,z93,smpR_enc (h _ (z92 hlt))];dsimp only;rw [zae,List.getElem?_eq_getElem hlt]; rfl
theorem z8g {α:Type}{n:Int}{v:α}:∀{l:RowL α},(∀p∈l,p.1 < n)→ins n v l=l++[(n,v)]
 | [],_=>rfl
 | (a,b)::r,h=>by
  have h1:=h _ (z98 ..);dsimp only at h1;unfold ins;rw [if_neg (by omega),z8g fun p hp=>h p (z99 _ hp)]; rfl
theorem pop_none {α:Type}{next:Int}:∀{l:RowL α},(∀p∈l,next+1≤p.1)→pop next l=([],next,l)
 | [],_=>rfl
 | (n,v)::r,h=>by
  have h1:=h _ (z98 ..);dsimp only at h1;unfold pop;rw [if_neg (by omega)]
theorem z8h {next most n:Int}{l:RowL Pv}{e:Pv}(h0:0≤next)(hb:∀p∈l,next+1≤p.1∧p.1 < n)(hn:next+1≤n)(hm:n < next+most)(hn2:n < 1099511627776)(he:q7p e=true)(hv:wf64 e.value)(r:List Int) :
  qfl ⟨next,most,l⟩ ⟨0,rwB (n,e)++r⟩=.ok (⟨next,most,l++[(n,e)]⟩,⟨0,r⟩):=by
 have e1:rwB (n,e)++r=usB [n]++(evB e++r):=by simp [rwB]
 have hlk:q08 n l=none:=q0h.2 fun hk=>by
  obtain⟨p,hp,he⟩:=z90.1 hk;have:=hb p hp; omega
 have ho:(⟨next,most,l⟩:HS Pv).offer n [e]=(⟨next,most,l++[(n,e)]⟩,[],0):=by
  unfold HS.offer;rw [if_neg (by omega)];have e2:q2i next most n [e] (l,0)=(l++[(n,e)],0):=by
   show q20 next most n e (l,0)=_;unfold q20;dsimp only;rw [hlk,if_neg (by simp; omega),if_neg (by omega),z8g fun p hp=>(hb p hp).2]
  have e3:pop next (l++[(n,e)])=([],next,l++[(n,e)]):=pop_none fun p hp=>by
   rcases za4.1 hp with hp|hp
   ·exact (hb p hp).1
   ·rw [z9q] at hp; subst hp; exact hn
  dsimp only;rw [e2];dsimp only;rw [e3]
 unfold qfl;rw [e1,q2e (by unfold wf64; omega)];dsimp only;rw [qmm he hv];dsimp only;have hbp:q4v n [e]=true:=by
  unfold q4v;simp [he]; omega
 rw [hbp,if_neg (by simp),ho,if_neg (by simp)]
theorem qmn {next most:Int}{l:RowL Pv}(h0:0≤next)(hr:q43 (next+1) next most l)(hp:∀p∈l,p.1 < 1099511627776∧q7p p.2=true∧wf64 p.2.value)(r:List Int):∀j,j≤l.length→
  q4r ⟨next,most,[]⟩ j ⟨0,l.flatMap rwB++r⟩=.ok (⟨next,most,l.take j⟩,⟨0,(l.drop j).flatMap rwB++r⟩)
 | 0,_=>rfl
 | j+1,hj=>by
  have hlt:j < l.length:=by omega
  unfold q4r;rw [qmn h0 hr hp r j (by omega)];dsimp only;have hm:=z92 hlt;have hi:=hr.inb _ hm;have hpj:=hp _ hm;rw [z9z hlt,z9w,z93];have hbefore:∀p∈l.take j,p.1 < l[j].1:=by
   intro p hp';obtain⟨q,hq,rfl⟩:=zb0 hp';rw [z9d] at hq;rw [List.getElem_take];exact List.pairwise_iff_getElem.1 hr.rising q j (by omega) hlt (by omega)
  have:=z8h (next:=next) (most:=most) (n:=l[j].1) (l:=l.take j) (e:=l[j].2) h0 (fun p hp'=>⟨(hr.inb p (zb5 hp')).1,hbefore p hp'⟩) hi.1 hi.2 hpj.1 hpj.2.1 hpj.2.2 ((l.drop (j+1)).flatMap rwB++r)
  rw [zae,List.getElem?_eq_getElem hlt];exact this
theorem flN1 (b:Bool):flN [b] 1=if b then 1 else 0:=by cases b <;> rfl
def z3t (st:Str):List Int:=((usB [flN [st.ck.held] 1,st.ck.streak,(st.ck.smps.length:Int)]++st.ck.smps.flatMap smB)++usB [st.hs.next,(st.hs.rows.length:Int)])++st.hs.rows.flatMap rwB
theorem strR_enc {c:Cfg}{st:Str}(ok:qgt c st)(r:List Int):strR c ⟨0,q2g [st.last]++(z3t st++r)⟩=.ok (st,⟨0,r⟩):=by
 have hl:=ok.last;have hck:=ok.ck;have hsm:st.ck.smps.length≤8:=hck.len;have hst:=hck.st;have hn0:=ok.hs.next0;have hn1:=ok.next;have hm2:=ok.hs.most2;have hrl:=ok.hs.rows.length;have e1:z3t st++r=usB [flN [st.ck.held] 1]++(usB [st.ck.streak]++(usB [((st.ck.smps.length:Nat):Int)]++(st.ck.smps.flatMap smB++(usB [st.hs.next]++(usB [((st.hs.rows.length:Nat):Int)]++(st.hs.rows.flatMap rwB++r)))))):=by
  unfold z3t;rw [q4s (flN [st.ck.held] 1),q4s st.ck.streak,q4s st.hs.next];simp only [z93]
 unfold strR;rw [qal (by unfold wf64; omega)];dsimp only;rw [if_neg (by simp [inM]; omega),e1];unfold qku;have hf:=qyp [st.ck.held] 1 (by decide);rw [qhf hf.1 (by have:=hf.2; omega)];dsimp only;rw [q2e (by unfold wf64; omega)];dsimp only;rw [q88 (by omega) (by omega)];dsimp only;rw [z8z,qtb hck.ok _ _ (z91 _),zab,zao];dsimp only;unfold qp0;rw [if_neg (fun hh=>hh ⟨hsm,hst.1,hck.ok⟩)]
 have e2:([]:List Smp).flatMap smB++(usB [st.hs.next]++(usB [((st.hs.rows.length:Nat):Int)]++(st.hs.rows.flatMap rwB++r)))=usB [st.hs.next]++(usB [((st.hs.rows.length:Nat):Int)]++(st.hs.rows.flatMap rwB++r)):=rfl;rw [e2,q2e (by unfold wf64; omega)];dsimp only;rw [if_neg (by omega),q88 (by omega) (by omega)];dsimp only;have hrows:=ok.hs.rows;rw [ok.most] at hrows;rw [z8z,qmn hn0 hrows ok.rows _ _ (z91 _),zab,zao];dsimp only;have e3:decide (flN [st.ck.held] 1=1)=st.ck.held:=by rw [flN1]; cases st.ck.held <;> rfl
 rw [e3,← ok.rho,← ok.least,← ok.most];rfl
theorem bits3 (a b c:Bool):bitF (flN [a,b,c] 3) 1=a∧bitF (flN [a,b,c] 3) 2=b∧bitF (flN [a,b,c] 3) 4=c:=by
 cases a <;> cases b <;> cases c <;> decide
theorem flR_enc {c:Cfg}{fl:Fl}{st:Str}(ok:qgt c st)(r:List Int):flR c fl.t ⟨0,usB [flN [fl.out,fl.was,fl.held] 3]++(q2g [st.last]++(z3t st++r))⟩=.ok ((fl,st),⟨0,r⟩):=by
 have hf:=qyp [fl.out,fl.was,fl.held] 3 (by decide);unfold flR;rw [qhf hf.1 (by have:=hf.2; omega)];dsimp only;rw [strR_enc ok];dsimp only;obtain⟨b1,b2,b3⟩:=bits3 fl.out fl.was fl.held;rw [b1,b2,b3]
theorem agtR_enc {s0:Sta}{a:Int}{e:En}{fl:Fl}{st:Str}(ok:qgt s0.cfg st)(he:wf64 e.epoch∧wf64 e.boot∧wf64 e.time)(hs:setR s0.cfg.agents s0.rows a e=(s0.rows.set a.toNat e,0))(hf:0≤fl.t∧fl.t≤s0.now)(hf2:wf64 fl.t)(r:List Int) :
  ∃rest,agB a e fl st++r=usB [a]++rest∧agtR s0 a ⟨0,rest⟩=.ok ((s0.rows.set a.toNat e,fl,st),⟨0,r⟩):=by
 refine⟨usB [e.epoch]++(usB [e.boot]++(usB [e.time]++(usB [fl.t]++(usB [flN [fl.out,fl.was,fl.held] 3]++(q2g [st.last]++(z3t st++r)))))),?_,?_⟩
 ·unfold agB agB1 z3t;rw [q4s a,q4s e.epoch,q4s e.boot,q4s e.time,q4s fl.t];simp only [z93]
 ·unfold agtR;rw [q2e he.1];dsimp only;rw [q2e he.2.1];dsimp only;rw [q2e he.2.2];dsimp only;have e1:(⟨e.epoch,e.boot,e.time⟩:En)=e:=rfl;rw [e1,hs,if_neg (by simp),qk2 hf hf2];dsimp only;rw [flR_enc ok]
structure qk6 (o:Ot):Prop where
 wc:WC o.2
 rt:q3e o.2=true
 ch:CH o.2
 win:0≤o.1.win∧o.1.win≤4611686018427387903
 ser:(q6z o.1.ser).2.2=true
 size:o.1.ser.size≤5000
theorem qtc {o:Ot}(h:qk6 o)(r:List Int):q9e ⟨0,ceB o++r⟩=.ok (o,⟨0,r⟩):=by
 have hc:=qdw h.wc;have hsz:(strB (q36 o.2)).size=(q36 o.2).length:=q4q _;have hs:=h.size;have e1:ceB o++r=q2g [o.1.win]++(q2m o.1.ser++(q2m (strB (q36 o.2))++r)):=by
  show cbB o.1 o.2++r=_;unfold cbB;simp [q19]
 have hbi:q2j (strB (q36 o.2))=q36 o.2:=by
  unfold q2j;rw [show (strB (q36 o.2)).data.toList=(q36 o.2).map fun n=>UInt8.ofNat n.toNat from strOfNums_data _,z9r]
  apply za9 (by simp);intro i h1 h2;simp only [zaa,Function.comp];exact qh4 (qvp o.2) i h2
 have t1:∀x:ByteArray,∀r:List Int,x.size < 18446744073709551616→tRes (q2m x++r).length ⟨0,q2m x++r⟩=(q2j x,⟨0,r⟩):=fun x r hx=>by
  refine qef ?_ hx r;unfold q2m;simp only [z8t];have:=q4k x;omega
 unfold q9e;have hw:=h.win;rw [e1,qal (by unfold wf64; omega)];dsimp only;rw [t1 _ _ (by omega)];dsimp only;rw [t1 _ _ (by omega)];dsimp only;rw [if_neg (by simp),q8x,h.ser,if_neg (by simp [inM]; omega),hbi,z8f h.wc h.rt h.ch];dsimp only;rw [if_neg (by simp)]
theorem qtd {l:List Ot}(h:∀o∈l,qk6 o)(r:List Int):∀j,j≤l.length→q4e j ⟨0,l.flatMap ceB++r⟩=.ok (l.take j,⟨0,(l.drop j).flatMap ceB++r⟩)
 | 0,_=>rfl
 | j+1,hj=>by
  have hlt:j < l.length:=by omega
  unfold q4e;rw [qtd h r j (by omega)];dsimp only;rw [z9z hlt,z9w,z93,qtc (h _ (z92 hlt))];dsimp only;rw [zae,List.getElem?_eq_getElem hlt]; rfl
theorem qz3 {κ α:Type}[DecidableEq κ]{k:κ}{v:α}{m:List (κ × α)}(h:q08 k m=none):mset k v m=(k,v)::m:=by
 unfold mset;rw [q0y h]
theorem qte {most:Int}{l:List Ot}(hn:(q00 l).Nodup)(h:∀o∈l,qk6 o)(hm:(l.length:Int)≤most)(r:List Int):∀j,j≤l.length→q5f most j ⟨0,l.flatMap ceB++r⟩=.ok ((l.take j).reverse,⟨0,(l.drop j).flatMap ceB++r⟩)
 | 0,_=>rfl
 | j+1,hj=>by
  have hlt:j < l.length:=by omega
  have hmem:=z92 hlt;have hnot:q08 l[j].1 (l.take j).reverse=none:=q0h.2 fun hk=>by
   obtain⟨p,hp,he⟩:=z90.1 hk;rw [List.mem_reverse] at hp;obtain⟨q,hq,rfl⟩:=zb0 hp;rw [z9d] at hq;rw [List.getElem_take] at he;have h1:=List.pairwise_iff_getElem.1 hn q j (by simp [q00]; omega) (by simp [q00]; omega) (by omega);simp only [q00,zaa] at h1;exact h1 he
  unfold q5f;rw [qte hn h hm r j (by omega)];dsimp only;rw [z9z hlt,z9w,z93,qtc (h _ hmem)];dsimp only;have hs:setS most (l.take j).reverse l[j].1 l[j].2=((l.take (j+1)).reverse,0):=by
   unfold setS;rw [hnot,if_neg (by simp),(h _ hmem).rt,if_neg (by simp),if_neg (by rw [List.length_reverse,z9d]; omega),qz3 hnot,zae,List.getElem?_eq_getElem hlt,List.reverse_append];rfl
  rw [hs,if_neg (by simp)]
abbrev qtf (s:Sta)(r:Rp):Sta:=(q3h s r).1
abbrev effS (s:Sta)(r:Rp):List Eff:=(q3h s r).2.1
theorem q8y {s:Sta}{r:Rp}{P:Sta × List Eff × Int→Prop}(h0:r.right=false→P (s,[],10))(h1:r.right=true→q1y s r≠0→P (s,[],q1y s r))
  (k1:r.right=true→q1y s r=0→r.kind=1→P ({ s with boots:=s.boots+1 },[],0))
  (k2:r.right=true→q1y s r=0→r.kind=2→P (q7k s r))
  (k3:r.right=true→q1y s r=0→r.kind=3→P (qcm s r,[],0))
  (k4:r.right=true→q1y s r=0→r.kind=4→P ((q76 s r).1,(q76 s r).2,0))
  (k5:r.right=true→q1y s r=0→r.kind=5→P (qsl s r,[],0))
  (k6:r.right=true→q1y s r=0→r.kind=6→P ((qfi s r.nw).1,(qfi s r.nw).2,0))
  (k7:r.right=true→q1y s r=0→r.kind=7→P (qwi s r,[],0)):P (q3h s r):=by
 unfold q3h
 split
 ·rename_i h; exact h0 h
 rename_i hR;have hR:r.right=true:=by simpa using hR
 have hL:=q1j hR
 split
 ·rename_i h; exact h1 hR h
 rename_i hf;have hf:q1y s r=0:=by simpa using hf
 split
 ·rename_i h; exact k1 hR hf h
 split
 ·rename_i h; exact k2 hR hf h
 split
 ·rename_i h; exact k3 hR hf h
 split
 ·rename_i h; exact k4 hR hf h
 split
 ·rename_i h; exact k5 hR hf h
 split
 ·rename_i h; exact k6 hR hf h
 ·rename_i q1 q2 q3 q4 q5 q6;exact k7 hR hf (by have:=hL.kind; omega)
theorem q89 {s:Sta}{r:Rp}(h1:r.kind≠1)(h7:r.kind≠7)(h:q1y s r=0):s.now≤(if r.kind=3 then r.sm.came else r.nw):=by
 unfold q1y at h;rw [if_neg h1,if_neg h7] at h;generalize (if r.kind=3 then r.sm.came else r.nw)=n at *
 unfold qfj at h
 split at h
 ·simp at h
 split at h
 ·simp at h
 ·omega
theorem q96 {α:Type}{p:α→Bool}:∀{l:List α},l.Pairwise (fun x y=>p y=true→p x=true)→l.takeWhile p=l.filter p
 | [],_=>rfl
 | a::r,h=>by
  rw [zai] at h;rw [List.takeWhile_cons,z9x]
  split
  ·rw [q96 h.2]
  ·rename_i hn;exact (List.filter_eq_nil_iff.2 fun x hx hp=>hn (h.1 x hx hp)).symm
theorem qtg {p:Ky × Cl}:∀{l:List Ot} {m:CM},p∈qgq m l↔p∈m∧∀o∈l,o.1≠p.1
 | [],m=>by simp [qgq]
 | o::r,m=>by
  have ih:=qtg (p:=p) (l:=r) (m:=mdel o.1 m);show p∈qgq (mdel o.1 m) r↔_;rw [ih,qaw];simp only [z96,forall_eq_or_imp]
  constructor
  ·rintro⟨⟨h1,h2⟩,h3⟩; exact⟨h1,fun e=>h2 e.symm,h3⟩
  ·rintro⟨h1,h2,h3⟩; exact⟨⟨h1,fun e=>h2 e.symm⟩,h3⟩
end Go.Nm
namespace Go.Proofs.YtfmkddccnjidmaaGreatDoor
open Go.Nm Go.Sort
theorem qww (x y:Ky):leKy x y=!(ltOf qbi) y x:=by rw [ltKy]; rfl
theorem q3n (ks:List Ky):(q1w ks).Pairwise fun x y=>leKy x y=true:=by
 unfold q1w;refine List.pairwise_mergeSort (le:=leKy) (fun x y z h1 h2=>?_) (fun x y=>?_) ks
 ·rw [qww] at *;simp only [z9a] at *;exact swoKy.ntrans z y x h2 h1
 ·rw [qww,qww]
  cases h1:ltOf qbi y x with
  | false=>rfl
  | true=>
   cases h2:ltOf qbi x y with
   | false=>rfl
   | true=>have:=swoKy.trans _ _ _ h1 h2; rw [swoKy.irrefl] at this; cases this
theorem qp8 {x y:Ky}(h:leKy x y=true):x.win≤y.win:=by
 unfold leKy at h;simp only [z9a,z94,z8x] at h;omega
theorem qeg (m:CM)(b:Int):q4o m b=(q0j m).filter fun o=>decide (o.1.win < b):=by
 unfold q4o;refine q96 ?_;unfold q0j;rw [zb9];refine (q3n _).imp fun h h2=>?_
 have:=qp8 h;simp only [z8u] at *;omega
theorem qp9 {m:CM}{k:Ky}:(∃o∈q0j m,o.1=k)↔k∈q00 m:=by
 unfold q0j
 constructor
 ·rintro⟨o,ho,rfl⟩;obtain⟨k',hk,rfl⟩:=z90.1 ho;exact (q15 _).mem_iff.1 hk
 ·intro h;exact⟨_,z90.2 ⟨k,(q15 _).mem_iff.2 h,rfl⟩,rfl⟩
theorem z3u {m:CM}{b:Int}{p:Ky × Cl}:p∈qbu m b↔p∈m∧b≤p.1.win:=by
 unfold qbu;rw [qtg]
 constructor
 ·rintro⟨h1,h2⟩;refine⟨h1,?_⟩;obtain⟨o,ho,he⟩:=(qp9 (m:=m) (k:=p.1)).2 (z90.2 ⟨p,h1,rfl⟩)
  rcases Int.lt_or_le p.1.win b with hlt|hge
  ·exact absurd he (h2 o (by rw [qeg]; exact List.mem_filter.2 ⟨ho,by rw [he]; exact z9b hlt⟩))
  ·exact hge
 ·rintro⟨h1,h2⟩;refine⟨h1,fun o ho he=>?_⟩
  rw [qeg] at ho;have:=z8s (List.mem_filter.1 ho).2;rw [he] at this; omega
theorem qwx {r:Rp}(h:r.right=true):r.zeros=true:=by
 unfold Rp.right at h;simp only [z8w] at h;exact h.1.1.2
theorem qz4 {rows:List En}{a:Int}{e:En}(h0:0≤a)(hl:a.toNat < rows.length):rowE (rows.set a.toNat e) a=e:=by
 unfold rowE;rw [if_neg (by omega),List.getElem?_set_self hl]; rfl
end Go.Proofs.YtfmkddccnjidmaaGreatDoor
namespace Go.Nm
open Go.Proofs.YtfmkddccnjidmaaGreatDoor
abbrev isV (t:Int):Prop:=-4611686018427387904≤t∧t≤4611686018427387903
theorem qk7 {g:Gd}(hg:g.ok){t:Int}(ht:isV t):q1o g t=t / g.width:=by
 have hw:1≤g.width:=hg.1;have hb:isV (t / g.width):=by
  constructor
  ·rw [Int.le_ediv_iff_mul_le (by omega)];omega
  ·rcases Int.lt_or_le t 0 with h|h
   ·have:t / g.width < 0:=Int.ediv_neg_of_neg_of_pos h (by omega);omega
   ·have:=Int.ediv_le_self g.width h;omega
 unfold q1o;rw [if_pos hg,Int.tdiv_eq_ediv,Int.tmod_eq_emod];have h0:=Int.emod_nonneg t (show g.width≠0 by omega);have h1:=Int.emod_lt_of_pos t (show 0 < g.width by omega)
 by_cases hc:0≤t∨g.width ∣ t
 ·rw [if_pos hc,if_pos hc,if_neg (by omega),w64]; omega
 ·rw [if_neg hc,if_neg hc,if_pos (by omega),Int.sign_eq_one_of_pos (by omega),w64 (x:=t / g.width+1),w64]; omega
theorem meet2_of {x:Gp}{f n:Int}(h:(qf6 [x,⟨f,n⟩]).2=0):(qf6 [x,⟨f,n⟩]).1.lo≤(qf6 [x,⟨f,n⟩]).1.hi∧(qf6 [x,⟨f,n⟩]).1.hi≤n∧f≤(qf6 [x,⟨f,n⟩]).1.lo:=by
 unfold qf6 qiy at h ⊢
 split at h
 ·rename_i h1;rw [if_pos h1];unfold qiy at h ⊢
  split at h
  ·rename_i h2;rw [if_pos h2];unfold qiy at h ⊢
   split at h
   ·rename_i h3;rw [if_pos h3];refine⟨h3,?_,?_⟩
    ·unfold meet2; dsimp only; split <;> omega
    ·unfold meet2; dsimp only; split <;> omega
   ·simp at h
  ·simp at h
 ·simp at h
theorem qz5 {ck:Ck}{fl:Fl}{now stamp:Int}(h:(q1q ck fl now stamp).2=0):(q1q ck fl now stamp).1.lo≤(q1q ck fl now stamp).1.hi∧(q1q ck fl now stamp).1.hi≤now∧fl.t≤(q1q ck fl now stamp).1.lo:=by
 unfold q1q at h ⊢
 split at h
 ·rename_i h1; exact absurd h h1
 rename_i h1;rw [if_neg h1]
 split at h
 ·simp at h
 rename_i h2;rw [if_neg h2];exact meet2_of (Decidable.not_not.1 h2)
theorem qth {p:Ky × Cl}:∀{l m:CM},p∈qgp l m→p∈l∨p∈m
 | [],m,h=>.inr h
 | q::r,m,h=>by
  rcases qth (l:=r) (m:=mset q.1 q.2 m) h with h|h
  ·exact .inl (z99 _ h)
  ·rcases q3z h with rfl|h
   ·exact .inl (z98 ..)
   ·exact .inr h
structure CelI (lo hi B:Int)(m:CM):Prop where
 win:∀p∈m,lo≤p.1.win∧p.1.win≤hi
 cnt:∀p∈m,1≤p.2.cer+p.2.pos∧p.2.cer+p.2.pos≤B
theorem qwy (ms:MS)(a t:Int):(ms.raise a t).1.value=ms.value∧(ms.raise a t).1.now=ms.now:=by
 unfold MS.raise
 split
 ·exact⟨rfl,rfl⟩
 ·split <;> exact⟨rfl,rfl⟩
theorem raise_fl {ms:MS}{a t n:Int}(h:∀p∈ms.m,p.2.t≤n)(ht:t≤n):∀p∈(ms.raise a t).1.m,p.2.t≤n:=by
 unfold MS.raise
 split
 ·exact h
 rename_i x hx
 split
 ·exact h
 intro p hp
 rcases q3z hp with rfl|hp
 ·have:=h _ (q0e hx);dsimp only at this ⊢
  split <;> omega
 ·exact h p hp
theorem z3v {g:Gd}{x:Gp}(h:(q1g g x).1≠0∨True)(hg:g.ok)(hx:x.ok):q1g g x=(q1o g x.lo,q1o g x.hi,0):=by
 unfold q1g;rw [if_pos hg,if_pos hx]
structure OpenI (s:Sta)(B:Int):Prop where
 b0:0≤B
 val:s.ms.value≤s.now
 cel:CelI (q1o s.cfg.gd s.ms.value) (q1o s.cfg.gd s.now) B s.cm
 fl:∀p∈s.ms.m,p.2.t≤s.now
 en:∀a,(rowE s.rows a).time≤s.now
 ag:s.rows.countP (fun e=>decide (0 < e.epoch))≤s.cfg.agents
theorem qam:∀{l:List En} {i:Nat},(tab i l).length=l.countP fun e=>decide (0 < e.epoch)
 | [],i=>rfl
 | e::r,i=>by
  unfold tab;rw [List.countP_cons]
  split
  ·rename_i h;rw [z8y,qam (l:=r),if_pos (by simpa using h)]
  ·rename_i h;rw [qam (l:=r),if_neg (by simpa using h)]; rfl
theorem qti {p:En→Bool}{x:En}:∀{l:List En} {k:Nat} (hk:k < l.length),(l.set k x).countP p≤l.countP p+(if p l[k] then 0 else 1)
 | a::r,0,_=>by
  simp only [zb2,List.getElem_cons_zero];rw [List.countP_cons,List.countP_cons]
  by_cases h1:p x=true <;> by_cases h2:p a=true <;> simp [h1,h2]
 | a::r,k+1,h=>by
  have ih:=qti (p:=p) (x:=x) (l:=r) (k:=k) (by simpa using h);simp only [zbi,List.getElem_cons_succ];rw [List.countP_cons,List.countP_cons];omega
theorem open_ag {s:Sta}{a:Int}{x:En}{rows':List En}(ok:q25 s)(h2:s.rows.countP (fun e=>decide (0 < e.epoch))≤s.cfg.agents)(ha:0≤a∧a≤63)(hf:¬((rowE s.rows a).epoch=0∧full s.cfg.agents s.rows))(g2:rows'=s.rows.set a.toNat x) :
  rows'.countP (fun e=>decide (0 < e.epoch))≤s.cfg.agents:=by
 have hltr:a.toNat < s.rows.length:=by rw [ok.rows.len]; omega
 rw [g2];have h1:=qti (p:=fun e=>decide (0 < e.epoch)) (x:=x) hltr
 have h3:rowE s.rows a=s.rows[a.toNat]:=by
  unfold rowE;rw [if_neg (by omega),List.getElem?_eq_getElem hltr]; rfl
 by_cases h4:0 < s.rows[a.toNat].epoch
 ·rw [if_pos (by simpa using h4)] at h1;omega
 ·rw [if_neg (by simpa using h4)] at h1;have h5:=(ok.rows.at a).1;rw [h3] at h5;have h6:¬full s.cfg.agents s.rows:=fun hh=>hf ⟨by rw [h3]; omega,hh⟩
  unfold full at h6;rw [qam] at h6;omega
theorem z8i {lim n:Int}{m:FM}(hm:∀p∈m,p.2.t≤n)(hn:0≤n):∀(ks:List Int) (s:Int × Bool),s.1≤n→(qbj lim m ks s).1≤n
 | [],s,h=>h
 | k::r,s,h=>by
  refine z8i hm hn r _ ?_;unfold qkr
  split
  ·cases hk:q08 k m with
   | none=>simp only [Option.getD_none,Fl.z]; exact hn
   | some x=>simp only [Option.getD_some]; exact hm _ (q0e hk)
  ·exact h
theorem open_new {c:Cfg}(ok:qbk c):OpenI (newS c) 0 where
 b0:=z9g _
 val:=by have:=ok.lag; show -c.lag≤0; omega
 cel:=⟨fun p hp=>absurd hp (by simp [newS]),fun p hp=>absurd hp (by simp [newS])⟩
 fl:=fun p hp=>absurd hp (by simp [newS,MS.new])
 en:=fun a=>by
  unfold rowE newS;dsimp only
  split
  ·exact z9g _
  ·rw [List.getElem?_replicate]
   split <;> exact z9g _
 ag:=by
  have:=ok.ag;unfold newS;dsimp only;rw [List.countP_replicate];simp [En.z]; omega
open Go.Proofs.YtfmkddccnjidmaaGreatDoor
structure Rch (s:Sta):Prop where
 ok:q25 s
 sunk:s.sunk≤1099511627776
 mnow:0≤s.ms.now∧s.ms.now≤s.now
 val:s.ms.now - s.cfg.lag≤s.ms.value∧s.ms.value≤s.ms.now
 keys:∀a,(q08 a s.ms.m).isSome=decide (0 < (rowE s.rows a).epoch)
 fl:∀p∈s.ms.m,p.2.t≤s.now
 rows:∀a,0 < (rowE s.rows a).epoch→(1≤(rowE s.rows a).boot∧(rowE s.rows a).boot≤1099511627776)∧0≤(rowE s.rows a).time∧(rowE s.rows a).time≤4611686018427387903
 ag:s.rows.countP (fun e=>decide (0 < e.epoch))≤s.cfg.agents
 cm:∀p∈s.cm,qk6 p
 kept:∀o∈s.kept,qk6 o
theorem qhh (e:En)(r:List En)(i:Nat):tab i (e::r)=(if 0 < e.epoch then [((i:Int),e)] else [])++tab (i+1) r:=by
 conv=>lhs; unfold tab
 split <;> rfl
theorem qb8:∀(a b:List En) (i:Nat),tab i (a++b)=tab i a++tab (i+a.length) b
 | [],b,i=>rfl
 | e::r,b,i=>by
  have ih:=qb8 r b (i+1);have e1:i+1+r.length=i+(e::r).length:=by simp only [z8y]; omega
  rw [e1] at ih;rw [zaw,qhh,qhh,ih,z93]
theorem qz6:∀(n i:Nat),tab i (List.replicate n En.z)=[]
 | 0,i=>rfl
 | n+1,i=>by
  rw [List.replicate_succ];unfold tab;rw [if_neg (by simp [En.z]),qz6 n (i+1)]
theorem qz7 {rows:List En}{k:Nat}(hk:k < rows.length):tab k (rows.drop k)=(if 0 < rows[k].epoch then [((k:Int),rows[k])] else [])++tab (k+1) (rows.drop (k+1)):=by
 rw [z9z hk,qhh]
theorem qpa {rows:List En}{k:Nat}(hk:k < rows.length):tab 0 (rows.take (k+1))=tab 0 (rows.take k)++(if 0 < rows[k].epoch then [((k:Int),rows[k])] else []):=by
 rw [zae,List.getElem?_eq_getElem hk,qb8];congr 1;rw [z9d,zar (by omega),z9e];show tab k [rows[k]]=_;rw [qhh];exact z9o _
def cutR (rows:List En)(k:Nat):List En:=rows.take k++List.replicate (64 - k) En.z
def cutT (sts:List (Option Str))(k:Nat):List (Option Str):=sts.take k++List.replicate (64 - k) none
def flsK (s:Sta)(k:Nat):FM:=((tab 0 (s.rows.take k)).map fun p=>(p.1,flOf s.ms p.1)).reverse
theorem z8j {α:Type}{l:List α}{z:α}{k:Nat}(hl:l.length=64)(hk:k < 64):(l.take k++List.replicate (64 - k) z).set k (l[k]'(by omega))=l.take (k+1)++List.replicate (64 - (k+1)) z:=by
 have e:List.replicate (64 - k) z=z::List.replicate (64 - (k+1)) z:=by
  rw [← List.replicate_succ]; congr 1; omega
 rw [e,List.set_append_right _ _ (by rw [z9d]; omega),z9d,zar (by omega),Nat.sub_self,zb2,zae,List.getElem?_eq_getElem (by omega),z93];rfl
theorem qz8 {α:Type}{l:List α}{z:α}{k:Nat}(hl:l.length=64)(hk:k < 64)(h:l[k]'(by omega)=z):l.take (k+1)++List.replicate (64 - (k+1)) z=l.take k++List.replicate (64 - k) z:=by
 have e:List.replicate (64 - k) z=z::List.replicate (64 - (k+1)) z:=by
  rw [← List.replicate_succ]; congr 1; omega
 rw [e,zae,List.getElem?_eq_getElem (by omega)];simp [h]
theorem qpb {rows:List En}{k:Nat}(hk:k < rows.length):rowE rows (k:Int)=rows[k]:=by
 unfold rowE;rw [if_neg (by omega),z8z,List.getElem?_eq_getElem hk]; rfl
theorem rowE_cut {rows:List En}{k:Nat}(hl:rows.length=64)(hk:k < 64):rowE (cutR rows k) (k:Int)=En.z:=by
 unfold rowE cutR;rw [if_neg (by omega),z8z,List.getElem?_append_right (by rw [z9d]; omega),List.getElem?_replicate]
 split <;> rfl
theorem Rch.count {s:Sta}(R:Rch s):((tab 0 s.rows).length:Int)≤s.cfg.agents:=by rw [qam]; exact R.ag
theorem z3w {s:Sta}(k:Nat):(tab 0 (s.rows.take k)).length+(tab k (s.rows.drop k)).length=(tab 0 s.rows).length:=by
 rcases z9h k s.rows.length with h|h
 ·have:=qb8 (s.rows.take k) (s.rows.drop k) 0;rw [zba,z9d,zar (by omega),z9e] at this;rw [this,z8t]
 ·rw [z9f h,zbh h]; rfl
theorem flsK_new {s:Sta}(k:Nat):q08 (k:Int) (flsK s k)=none:=q0h.2 fun hm=>by
 obtain⟨p,hp,he⟩:=z90.1 hm;unfold flsK at hp;rw [List.mem_reverse] at hp;obtain⟨q,hq,rfl⟩:=z90.1 hp;have:=(q7i hq).2.1;rw [z9d] at this;dsimp only at he;omega
theorem Rch.str {s:Sta}(R:Rch s){k:Nat}(hk:k < 64)(h:0 < (s.rows[k]'(by rw [R.ok.rows.len]; exact hk)).epoch):∃st,s.sts[k]?=some (some st)∧q3a s (k:Int)=some st:=by
 obtain⟨st,hst⟩:=(R.ok.reg k).2 ⟨_,List.getElem?_eq_getElem (by rw [R.ok.rows.len]; exact hk),h⟩;refine⟨st,hst,?_⟩;unfold q3a;rw [if_neg (by omega),z8z,hst]; rfl
theorem Rch.nostr {s:Sta}(R:Rch s){k:Nat}(hk:k < 64)(h:¬0 < (s.rows[k]'(by rw [R.ok.rows.len]; exact hk)).epoch):s.sts[k]'(by rw [R.ok.len]; exact hk)=none:=by
 have hlt:k < s.sts.length:=by rw [R.ok.len]; exact hk
 cases e:s.sts[k] with
 | none=>rfl
 | some st=>
  obtain⟨e',h1,h2⟩:=(R.ok.reg k).1 ⟨st,by rw [List.getElem?_eq_getElem hlt,e]⟩;rw [List.getElem?_eq_getElem (by rw [R.ok.rows.len]; exact hk)] at h1
  cases h1
  exact absurd h2 h
theorem Rch.flat {s:Sta}(R:Rch s)(a:Int):isT (flOf s.ms a).t∧(flOf s.ms a).t≤s.now:=by
 have h0:=R.ok.now;unfold flOf
 cases h:q08 a s.ms.m with
 | none=>exact⟨by show isT 0; decide,by show (0:Int)≤_; exact h0.1⟩
 | some x=>
  have:=q0e h;exact⟨(R.ok.ms.rows _ this).2,R.fl _ this⟩
theorem qz9 {s s0:Sta}(R:Rch s)(h0:s0.cfg=s.cfg)(h1:s0.now=s.now)(h2:s0.rows=List.replicate 64 En.z)(h3:s0.sts=List.replicate 64 none)(r:List Int):∀k,k≤64→
  agsR s0 (tab 0 (s.rows.take k)).length ⟨0,(tab 0 s.rows).flatMap (agOf s)++r⟩=.ok (⟨cutR s.rows k,cutT s.sts k,flsK s k⟩,⟨0,(tab k (s.rows.drop k)).flatMap (agOf s)++r⟩)
 | 0,_=>by
  show Except.ok _=_;rw [h2,h3]; rfl
 | k+1,hk=>by
  have hl:=R.ok.rows.len;have hls:=R.ok.len;have hlt:k < s.rows.length:=by omega
  have ih:=qz9 R h0 h1 h2 h3 r k (by omega);rw [qpa hlt];rw [qz7 hlt] at ih
  by_cases he:0 < s.rows[k].epoch
  ·rw [if_pos he] at ih ⊢;rw [z8t,zad];obtain⟨st,hst,hat⟩:=R.str (by omega) he;have hsok:=R.ok.sts st (z9i hst);have hrow:=R.rows (k:Int) (by rw [qpb hlt]; exact he);rw [qpb hlt] at hrow;have hre:=R.ok.rows.at (k:Int);rw [qpb hlt] at hre;have hfl:=R.flat (k:Int);have hcnt:(tab 0 (s.rows.take k)).length < (tab 0 s.rows).length:=by
    have:=z3w (s:=s) k;rw [qz7 hlt,if_pos he,z8t,zad] at this;omega
   have hag:=R.count;have hset:setR s.cfg.agents (cutR s.rows k) (k:Int) s.rows[k]=((cutR s.rows k).set ((k:Int)).toNat s.rows[k],0):=by
    unfold setR;rw [if_neg (by unfold bad; omega),rowE_cut hl (by omega),if_neg (by simp [En.z]),if_neg];unfold full cutR;rw [qb8,qz6,z9o];omega
   obtain⟨rest,e1,e2⟩:=agtR_enc (s0:={ s0 with rows:=cutR s.rows k,sts:=cutT s.sts k }) (a:=(k:Int)) (e:=s.rows[k]) (fl:=flOf s.ms (k:Int)) (st:=st) (by rw [h0]; exact hsok) ⟨by unfold wf64; omega,by unfold wf64; omega,by unfold wf64; omega⟩ (by rw [h0]; exact hset) (by rw [h1]; exact⟨hfl.1.1,hfl.2⟩) (by have:=hfl.1; unfold wf64; omega) ((tab (k+1) (s.rows.drop (k+1))).flatMap (agOf s)++r);have e3:([((k:Int),s.rows[k])]++tab (k+1) (s.rows.drop (k+1))).flatMap (agOf s)++r=usB [(k:Int)]++rest:=by
    rw [zbm,← e1,z93];congr 1;show agOf s ((k:Int),s.rows[k])++[]=_;unfold agOf;dsimp only;rw [hat,z9o]
   rw [e3] at ih;unfold agsR;rw [ih];dsimp only;rw [q2e (by unfold wf64; omega)];dsimp only;rw [e2];dsimp only;rw [z8z,qz3 (flsK_new k)];have c1:(cutR s.rows k).set k s.rows[k]=cutR s.rows (k+1):=z8j hl (by omega);have c2:(cutT s.sts k).set k (some st)=cutT s.sts (k+1):=by
    have:=z8j (z:=none) hls (show k < 64 by omega);have e4:s.sts[k]'(by omega)=some st:=by
     rw [List.getElem?_eq_getElem (by omega)] at hst;exact Option.some.inj hst
    rw [e4] at this;exact this
   have c3:((k:Int),flOf s.ms (k:Int))::flsK s k=flsK s (k+1):=by
    unfold flsK;rw [qpa hlt,if_pos he,z9k,List.reverse_append]; rfl
   rw [c1,c2,c3]
  ·rw [if_neg he] at ih ⊢;rw [z9o];rw [za7] at ih;rw [ih];have c1:cutR s.rows (k+1)=cutR s.rows k:=qz8 hl (by omega) (R.ok.rows.zero _ (z92 hlt) he);have c2:cutT s.sts (k+1)=cutT s.sts k:=qz8 hls (by omega) (R.nostr (by omega) he);have c3:flsK s (k+1)=flsK s k:=by
    unfold flsK;rw [qpa hlt,if_neg he,z9o]
   rw [c1,c2,c3]
theorem Rch.nStr {s:Sta}(R:Rch s):nStr s=(tab 0 s.rows).length:=by
 have hm:s.sts.map Option.isSome=s.rows.map fun e=>decide (0 < e.epoch):=by
  apply za9
  ·simp [R.ok.len,R.ok.rows.len]
  ·intro k h1 h2;have hk:k < 64:=by rw [z9c,R.ok.len] at h1; exact h1
   simp only [zaa]
   by_cases he:0 < (s.rows[k]'(by rw [R.ok.rows.len]; exact hk)).epoch
   ·obtain⟨st,hst,_⟩:=R.str hk he;rw [List.getElem?_eq_getElem (by rw [R.ok.len]; exact hk)] at hst;rw [Option.some.inj hst];simp [he]
   ·rw [R.nostr hk he];simp [he]
 unfold Go.Nm.nStr;rw [qam,← List.countP_eq_length_filter];have h1:s.sts.countP Option.isSome=(s.sts.map Option.isSome).countP id:=by rw [List.countP_map]; rfl
 have h2:s.rows.countP (fun e=>decide (0 < e.epoch))=(s.rows.map fun e=>decide (0 < e.epoch)).countP id:=by rw [List.countP_map]; rfl
 rw [h1,h2,hm]
def q8a (s:Sta):Sta:={ s with ms:={ s.ms with m:=flsK s 64 },cm:=(q0j s.cm).reverse }
theorem qmo (m:CM):q00 (q0j m)=q1w (q00 m):=by
 unfold q0j q00;rw [z9r];have:((fun x:Ky × Cl=>x.1)∘fun k=>(k,q1p m k))=id:=rfl
 rw [this,List.map_id]
theorem qtj {m:CM}{o:Ot}(h:o∈q0j m):o∈m:=by
 unfold q0j at h;obtain⟨k,hk,rfl⟩:=z90.1 h;have hk:=(q15 _).mem_iff.1 hk;unfold q1p
 cases e:q08 k m with
 | none=>exact absurd hk (q0h.1 e)
 | some c=>exact q0e e
theorem outsL_nd {m:CM}(h:(q00 m).Nodup):(q00 (q0j m)).Nodup:=by
 rw [qmo];exact (q15 _).nodup_iff.2 h
theorem z3x {s:Sta}(R:Rch s)(hkept:s.kept.length≤1000000000):q7l s.cfg (stB s)=.ok (q8a s):=by
 have hnow:=R.ok.now;have hboots:=R.ok.boots;have hsunk:=R.sunk;have hsunk0:=R.ok.sunk;have hmn:=R.mnow;have hv:=R.val;have hlag:=R.ok.cfg.lag;have hshl:=R.ok.sh.len;have hsh2:=R.ok.sh.m2;have hag:=R.count;have hag2:=R.ok.cfg.ag;have hcl:(q0j s.cm).length=s.cm.length:=q80 s.cm;have hkl:∀o∈q0j s.cm,qk6 o:=fun o ho=>R.cm o (qtj ho)
 have e:stB s=usB [s.now]++(usB [s.boots]++(usB [s.sunk]++(usB [s.ms.now]++(q2g [s.ms.value]++(usB [(((tab 0 s.rows).length:Nat):Int)]++((tab 0 s.rows).flatMap (agOf s)++(usB [((s.cm.length:Nat):Int)]++((q0j s.cm).flatMap ceB++(usB [((s.kept.length:Nat):Int)]++(s.kept.flatMap ceB++[])))))))))):=by
  unfold stB stB3 stB2 stB1;rw [R.nStr,q4s s.now,q4s s.boots,q4s s.sunk];simp only [z93,z9o]
 unfold q7l;rw [e,qk2 hnow (by unfold wf64; omega)];dsimp only;rw [qk2 hboots (by unfold wf64; omega)];dsimp only;rw [qk2 ⟨hsunk0,hsunk⟩ (by unfold wf64; omega)];dsimp only;rw [qk2 hmn (by unfold wf64; omega)];dsimp only;rw [qal (by unfold wf64; omega)];dsimp only;rw [q88 (by omega) (by omega)];dsimp only;have ha:=qz9 (s0:={ newS s.cfg with now:=s.now,boots:=s.boots,sunk:=s.sunk }) R rfl rfl rfl rfl (usB [((s.cm.length:Nat):Int)]++((q0j s.cm).flatMap ceB++(usB [((s.kept.length:Nat):Int)]++(s.kept.flatMap ceB++[])))) 64 (z91 _);rw [z9f (by rw [R.ok.rows.len]; omega),zbh (by rw [R.ok.rows.len]; omega)] at ha;rw [z8z,ha];dsimp only;rw [if_neg (fun hh=>hh hv)]
 have e2:(tab 64 ([]:List En)).flatMap (agOf s)++(usB [((s.cm.length:Nat):Int)]++((q0j s.cm).flatMap ceB++(usB [((s.kept.length:Nat):Int)]++(s.kept.flatMap ceB++[]))))=usB [((s.cm.length:Nat):Int)]++((q0j s.cm).flatMap ceB++(usB [((s.kept.length:Nat):Int)]++(s.kept.flatMap ceB++[]))):=rfl;rw [e2,q88 (by omega) (by omega)];dsimp only;have hc:=qte (most:=s.cfg.cells) (outsL_nd R.ok.sh.nd) hkl (by rw [hcl]; exact hshl) (usB [((s.kept.length:Nat):Int)]++(s.kept.flatMap ceB++[])) (q0j s.cm).length (z91 _);rw [zab,zao] at hc;rw [z8z,← hcl,hc];dsimp only;have e3:([]:List Ot).flatMap ceB++(usB [((s.kept.length:Nat):Int)]++(s.kept.flatMap ceB++[]))=usB [((s.kept.length:Nat):Int)]++(s.kept.flatMap ceB++[]):=rfl;rw [e3,qhf (by omega) (by omega)];dsimp only;have hk:=qtd R.kept [] s.kept.length (z91 _);rw [zab,zao] at hk;rw [z8z,hk];dsimp only;rw [show (q21 ⟨0,([]:List Ot).flatMap ceB++[]⟩).e=0 from rfl,if_neg (by simp)];have h1:cutR s.rows 64=s.rows:=by
  unfold cutR;rw [z9f (by rw [R.ok.rows.len]; omega)]; simp
 have h2:cutT s.sts 64=s.sts:=by
  unfold cutT;rw [z9f (by rw [R.ok.len]; omega)]; simp
 rw [h1,h2,← R.ok.lag];rfl
theorem z8k {ks ls:List Ky}(h:ks.Perm ls):q1w ks=q1w ls:=by
 refine List.Perm.eq_of_pairwise (le:=fun x y=>leKy x y=true) (fun a b _ _ h1 h2=>?_) (q3n ks) (q3n ls) ((q15 ks).trans (h.trans (q15 ls).symm))
 have w1:=qp8 h1;have w2:=qp8 h2;have hw:a.win=b.win:=by omega
 unfold leKy at h1 h2;simp only [z9a,z94,za2,z8x] at h1 h2;have s1:=h1.2.resolve_left (fun hh=>hh hw.symm)
 have s2:=h2.2.resolve_left (fun hh=>hh hw)
 rw [Go.Proofs.bytesLess_eq,z8x] at s1 s2;have:a.ser.toList=b.ser.toList:=List.le_antisymm s1 s2;obtain⟨aw,sa⟩:=a;obtain⟨bw,sb⟩:=b;dsimp only at hw this;rw [ByteArray.toList_eq,ByteArray.toList_eq] at this;have hs:sa=sb:=qmi this;rw [hw,hs]
theorem z3y {m m':CM}(hn:(q00 m).Nodup)(h:m.Perm m'):q0j m=q0j m':=by
 unfold q0j;rw [z8k (h.map Prod.fst:(q00 m).Perm (q00 m'))];apply zaq;intro k _;unfold q1p;rw [q47 hn h]
theorem z3z {m:CM}(hn:(q00 m).Nodup):(q0j m).Perm m:=by
 have h1:(q00 (q0j m)).Perm (q00 m):=by rw [qmo]; exact q15 _
 have h2:q0j m=(q1w (q00 m)).map fun k=>(k,q1p m k):=rfl
 rw [h2];refine ((q15 (q00 m)).map _).trans ?_;have:(q00 m).map (fun k=>(k,q1p m k))=m:=by
  unfold q00;rw [z9r]
  conv=>rhs; rw [← List.map_id m]
  apply zaq;intro p hp;show (p.1,q1p m p.1)=p;unfold q1p;rw [q28 hn hp];rfl
 rw [this]
theorem z8l {s:Sta}(R:Rch s)(a:Int):q08 a (flsK s 64)=if 0 < (rowE s.rows a).epoch then some (flOf s.ms a) else none:=by
 have hlen:=R.ok.rows.len;have hperm:((tab 0 s.rows).map fun p=>(p.1,flOf s.ms p.1)).Perm (flsK s 64):=by
  unfold flsK;rw [z9f (by omega)];exact (List.reverse_perm _).symm
 have hk:q00 ((tab 0 s.rows).map fun p=>(p.1,flOf s.ms p.1))=q00 (tab 0 s.rows):=by simp [q00,Function.comp_def]
 rw [← q47 (by rw [hk]; exact qe0) hperm];have:=qe2 (f:=fun (k:Int) (_:En)=>flOf s.ms k) (k:=a) (m:=tab 0 s.rows)
 rw [this,qos]
 split <;> rfl
theorem flsK_nd (s:Sta)(k:Nat):(q00 (flsK s k)).Nodup:=by
 unfold flsK;have:q00 (((tab 0 (s.rows.take k)).map fun p=>(p.1,flOf s.ms p.1)).reverse)=(q00 (tab 0 (s.rows.take k))).reverse:=by simp [q00,Function.comp_def]
 rw [this];exact List.pairwise_reverse.2 (qe0.imp fun h=>h.symm)
theorem qeh {κ α:Type}{m:List (κ × α)}(h:(q00 m).Nodup):m.Nodup:=List.Pairwise.of_map Prod.fst (fun a b hab e=>hab (by rw [e])) h
theorem qtk {κ α:Type}[DecidableEq κ][DecidableEq α]{m m':List (κ × α)}(h:(q00 m).Nodup)(h':(q00 m').Nodup)(he:∀k,q08 k m=q08 k m'):m.Perm m':=by
 refine (List.perm_ext_iff_of_nodup (qeh h) (qeh h')).2 fun p=>⟨fun hp=>?_,fun hp=>?_⟩
 ·have:=q28 h hp;rw [he] at this;exact q0e this
 ·have:=q28 h' hp;rw [← he] at this;exact q0e this
theorem qei {s:Sta}(R:Rch s):s.ms.m.Perm (q8a s).ms.m∧s.cm.Perm (q8a s).cm:=by
 refine⟨qtk R.ok.ms.nd (flsK_nd s 64) fun a=>?_,?_⟩
 ·show q08 a s.ms.m=q08 a (flsK s 64);rw [z8l R];have hkey:=R.keys a;unfold flOf
  cases h:q08 a s.ms.m with
  | none=>
   rw [h] at hkey;rw [if_neg (by intro he; rw [z9b he] at hkey; simp at hkey)]
  | some x=>
   rw [h] at hkey;rw [if_pos (by
    by_cases he:0 < (rowE s.rows a).epoch
    ·exact he
    ·rw [za8 he] at hkey; simp at hkey)]
   rfl
 ·exact ((z3z R.ok.sh.nd).symm.trans (List.reverse_perm _).symm)
theorem z8m {s:Sta}(R:Rch s)(a:Int):flOf (q8a s).ms a=flOf s.ms a:=by
 have:=q47 (x:=a) R.ok.ms.nd (qei R).1;unfold flOf;rw [← this]
theorem norm_cm {s:Sta}(R:Rch s):q0j (q8a s).cm=q0j s.cm:=(z3y R.ok.sh.nd (qei R).2).symm
theorem z40 {s:Sta}(R:Rch s):stB (q8a s)=stB s:=by
 have h1:∀p,agOf (q8a s) p=agOf s p:=by
  intro p;unfold agOf;have:q3a (q8a s) p.1=q3a s p.1:=rfl;rw [this]
  cases q3a s p.1 with
  | none=>rfl
  | some st=>dsimp only; rw [z8m R]
 have h2:(q8a s).cm.length=s.cm.length:=(qei R).2.length_eq.symm;unfold stB stB3 stB2 stB1;rw [norm_cm R,h2];have h3:(tab 0 (q8a s).rows).flatMap (agOf (q8a s))=(tab 0 s.rows).flatMap (agOf s):=by
  show (tab 0 s.rows).flatMap _=_;congr 1;funext p;exact h1 p
 rw [h3];rfl
open Go.Proofs.YtfmkddccnjidmaaGreatDoor
structure qfo (o:Ot):Prop where
 ch:CH o.2
 win:0≤o.1.win∧o.1.win≤4611686018427387903
 ser:(q6z o.1.ser).2.2=true
 size:o.1.ser.size≤5000
theorem qk6.l {o:Ot}(h:qk6 o):qfo o:=⟨h.ch,h.win,h.ser,h.size⟩
theorem qfo.g {o:Ot}(h:qfo o)(wc:WC o.2)(rt:q3e o.2=true):qk6 o:=⟨wc,rt,h.ch,h.win,h.ser,h.size⟩
theorem CH.z:CH Cl.z:=fun i _=>rfl
theorem CH.note {c:Cl}(h:CH c)(b:Bool):CH (q7n c b).1:=by
 unfold q7n
 split
 ·exact CH.z
 split
 ·split
  ·exact CH.z
  ·exact h
 ·split
  ·exact CH.z
  ·exact h
theorem CH.add {c:Cl}(h:CH c){v:Int}(hv:wf64 v):CH (addC c v).1:=by
 unfold addC
 split
 ·exact CH.z
 split
 ·exact CH.z
 split
 ·exact CH.z
 split
 ·exact CH.z
 rename_i h0;intro i hi;dsimp only;have h0:(addH c.h v).2=0:=Decidable.not_not.1 h0;unfold addH at h0 ⊢
 split at h0
 ·simp at h0
 rename_i h1;rw [if_neg h1]
 split at h0
 ·simp at h0
 rename_i h2;rw [if_neg h2];have:=q5s hv;dsimp only;unfold updN;rw [if_neg (by omega)];exact h i hi
theorem qza {B:Nat}:∀{ps:List (List UInt8)},(∀p∈ps,p.length≤B)→(Go.Lib.join ps [44]).length≤(B+1)*ps.length
 | [],_=>by simp [Go.Lib.join_nil]
 | [p],h=>by rw [Go.Lib.join_one]; have:=h p (z98 ..); simp; omega
 | p::q::r,h=>by
  have ih:=qza (ps:=q::r) fun x hx=>h x (z99 _ hx)
  have:=h p (z98 ..);rw [join2,z8t,z8y];simp only [z8y,Nat.mul_succ] at *;omega
theorem z8n {name:ByteArray}{labs:List Lab}(h:q3s name labs=true):(q6v name labs).size≤5000:=by
 have hp:=q7f h;have hn:=q5a hp.named;unfold q6v;rw [if_pos h]
 split
 ·omega
 ·have hj:=qza (ps:=(labs.map q5t).map lsB) (B:=129) (by
   intro p hp';obtain⟨b,hb,rfl⟩:=z90.1 hp';obtain⟨l,hl,rfl⟩:=z90.1 hb;have:=q5b (hp.val l hl);rw [qhg,z8t,z8y,q57,q57];omega)
  rw [z9c,z9c] at hj;have h8:=hp.len;rw [← q57,q4d,q4d,q4d];have ej:lsB (qch labs)=Go.Lib.join ((labs.map q5t).map lsB) [44]:=qk3 _;simp only [z8t,ej];rw [q57];have e1:(lsB (⟨#[123]⟩:ByteArray)).length=1:=rfl;have e2:(lsB (⟨#[125]⟩:ByteArray)).length=1:=rfl;rw [e1,e2];omega
structure SerG (ser:ByteArray):Prop where
 ok:(q6z ser).2.2=true
 size:ser.size≤5000
theorem serG_of {e:Pv}(h:q7p e=true):SerG (q6v e.name e.labs):=by
 obtain⟨_,h2⟩:=qz2 h;exact⟨by rw [z3r h2],z8n h2⟩
theorem note_L {most first last:Int}{m:CM}{ser:ByteArray}(h:∀p∈m,qfo p)(hs:SerG ser)(h1:0≤first)(h2:last≤4611686018427387903):∀p∈(qcf most m first last ser).1,qfo p:=by
 unfold qcf
 split
 ·exact h
 split
 ·exact h
 split
 ·exact h
 intro p hp
 rcases qth hp with hp|hp
 ·obtain⟨w,hw,e1,e2,e3⟩:=qjn hp;unfold wins at hw;obtain⟨i,hi',rfl⟩:=z90.1 hw;have hi':=zac.1 hi';have hc:CH (q1p m ⟨first+(i:Int),ser⟩):=by
   unfold q1p
   cases hm:q08 (⟨first+(i:Int),ser⟩:Ky) m with
   | none=>exact CH.z
   | some c=>exact (h _ (q0e hm)).ch
  exact⟨by rw [e2]; exact hc.note _,by rw [e1]; dsimp only; omega,by rw [e1]; exact hs.ok,by rw [e1]; exact hs.size⟩
 ·exact h p hp
theorem count_L {m:CM}{k:Ky}{v:Int}(h:∀p∈m,qfo p)(hv:wf64 v):∀p∈(qaa m k v).1,qfo p:=by
 unfold qaa
 split
 ·exact h
 rename_i c hc
 split
 ·exact h
 intro p hp
 rcases q3z hp with rfl|hp
 ·have:=h (k,c) (q0e hc);exact⟨this.ch.add hv,this.win,this.ser,this.size⟩
 ·exact h p hp
structure MsJ (lim:Int)(ms ms':MS):Prop where
 now:ms'.now=ms.now
 value:ms'.value=ms.value
 keys:∀a,(q08 a ms'.m).isSome=(q08 a ms.m).isSome
 fl:∀p∈ms'.m,p.2.t≤lim
theorem z8o {now:Int}{ms:MS}{a t:Int}(h:∀p∈ms.m,p.2.t≤now)(ht:t≤now):MsJ now ms (ms.raise a t).1:=by
 have r1:=qwy ms a t;refine⟨r1.2,r1.1,fun b=>?_,raise_fl h ht⟩
 unfold MS.raise
 split
 ·rfl
 rename_i x hx
 split
 ·rfl
 dsimp only;rw [q3k]
 split
 ·rename_i e; rw [e,hx]; rfl
 ·rfl
theorem MsJ.trans {now:Int}{a b c:MS}(h:MsJ now a b)(h2:MsJ now b c):MsJ now a c:=⟨h2.now.trans h.now,h2.value.trans h.value,fun k=>(h2.keys k).trans (h.keys k),h2.fl⟩
theorem flOf_lo {ms:MS}(h:MOk ms)(a:Int):0≤(flOf ms a).t:=by
 unfold flOf
 cases e:q08 a ms.m with
 | none=>exact z9g _
 | some x=>exact (h.rows _ (q0e e)).2.1
theorem judgeS_J {c:Cfg}{now a:Int}{st:Str}{ms:MS}{cm:CM}{e:Pv}(hg:c.gd.ok)(hn:isT now)(hm:MOk ms)(he:q7p e=true)(hv:wf64 e.value)(hf:∀p∈ms.m,p.2.t≤now)(hc:∀p∈cm,qfo p) :
  MsJ now ms (q23 c now a st ms cm e).ms∧∀p∈(q23 c now a st ms cm e).cm,qfo p:=by
 have same:MsJ now ms ms:=⟨rfl,rfl,fun _=>rfl,hf⟩
 unfold q23
 split
 ·exact⟨same,hc⟩
 split
 ·exact⟨same,hc⟩
 rename_i h1 h2;have h2:(q1q st.ck (flOf ms a) now e.stamp).2=0:=Decidable.not_not.1 (not_or.1 h2).1;obtain⟨t1,t2,t3⟩:=qz5 h2;have hlo:=flOf_lo hm a;generalize q1q st.ck (flOf ms a) now e.stamp=T at *;have r:=z8o (a:=a) (t:=T.1.lo) hf (by omega)
 split
 ·exact⟨r,hc⟩
 have w:=z3v (g:=c.gd) (x:=T.1) (.inr trivial) hg t1;rw [w];dsimp only;have w0:0≤q1o c.gd T.1.lo:=by
  rw [qk7 hg (by unfold isV isT at *; omega)];exact Int.ediv_nonneg (by omega) (by have:=hg.1; omega)
 have w1:q1o c.gd T.1.hi≤4611686018427387903:=by
  rw [qk7 hg (by unfold isV isT at *; omega)];have:=Int.ediv_le_self (a:=T.1.hi) c.gd.width (by omega);unfold isT at hn;omega
 have N:=note_L (most:=c.cells) (ser:=q6v e.name e.labs) hc (serG_of he) w0 w1
 split
 ·exact⟨r,N⟩
 split
 ·exact⟨r,N⟩
 ·exact⟨r,count_L N hv⟩
theorem qzb {c:Cfg}{now a ep first:Int}{evs:List Pv}{x:JS}(hg:c.gd.ok)(hn:isT now)(hm:MOk x.ms)(he:∀e∈evs,q7p e=true∧wf64 e.value)(hf:∀p∈x.ms.m,p.2.t≤now)(hc:∀p∈x.cm,qfo p):∀n,n≤evs.length→
  MOk (q16 c now a ep first evs x n).1.ms∧MsJ now x.ms (q16 c now a ep first evs x n).1.ms∧∀p∈(q16 c now a ep first evs x n).1.cm,qfo p
 | 0,_=>⟨hm,⟨rfl,rfl,fun _=>rfl,hf⟩,hc⟩
 | n+1,hl=>by
  obtain⟨i1,i2,i3⟩:=qzb (ep:=ep) (first:=first) (a:=a) hg hn hm he hf hc n (by omega);have hev:=he (evs.getD n Pv.z) (by rw [q8o _ (by omega)]; exact z92 _);have hj:=judgeS_J (a:=a) (st:=(q16 c now a ep first evs x n).1.st) (e:=evs.getD n Pv.z) hg hn i1 hev.1 hev.2 i2.fl i3;have hm:=qsp (c:=c) (now:=now) (a:=a) (st:=(q16 c now a ep first evs x n).1.st) (cm:=(q16 c now a ep first evs x n).1.cm) (e:=evs.getD n Pv.z) i1;exact⟨hm.1,i2.trans hj.1,hj.2⟩
theorem qzc {lim:Int}{m:FM}:∀(ks:List Int) (s:Int × Bool),lim≤s.1→lim≤(qbj lim m ks s).1
 | [],s,h=>h
 | k::r,s,h=>by
  refine qzc r _ ?_;unfold qkr
  split
  ·rename_i hc; dsimp only; omega
  ·exact h
theorem cmG {s:Sta}(ok:q25 s)(h:∀p∈s.cm,qfo p):∀p∈s.cm,qk6 p:=fun p hp=>(h p hp).g (ok.sh.wc p hp) (ok.sh.rt p hp)
theorem Rch.cl {s:Sta}(R:Rch s):∀p∈s.cm,qfo p:=fun p hp=>(R.cm p hp).l
theorem qwz {c:Cfg}(ok:qbk c):Rch (newS c) where
 ok:=qco ok
 sunk:=by show (0:Int)≤_; decide
 mnow:=⟨z9g _,z9g _⟩
 val:=by have:=ok.lag; show (0:Int) - c.lag≤-c.lag∧-c.lag≤0; omega
 keys:=fun a=>by
  have:rowE (newS c).rows a=En.z:=by
   unfold rowE newS;dsimp only
   split
   ·rfl
   ·rw [List.getElem?_replicate]; split <;> rfl
  rw [this]; rfl
 fl:=fun p hp=>absurd hp (by simp [newS,MS.new])
 rows:=fun a h=>by
  exfalso;have:rowE (newS c).rows a=En.z:=by
   unfold rowE newS;dsimp only
   split
   ·rfl
   ·rw [List.getElem?_replicate]; split <;> rfl
  rw [this] at h;simp [En.z] at h
 ag:=(open_new ok).ag
 cm:=fun p hp=>absurd hp (by simp [newS])
 kept:=fun p hp=>absurd hp (by simp [newS])
set_option maxHeartbeats 2000000 in
theorem q8z {s:Sta}{r:Rp}(R:Rch s)(hv:∀e∈r.evs,wf64 e.value):Rch (qtf s r):=by
 have hok:q25 (qtf s r):=apply_ok R.ok hv;have ok:=R.ok;have hmn:=R.mnow;have hval:=R.val;unfold qtf at *;revert hok;have nowup:∀{n:Int},s.now≤n→(0≤s.ms.now∧s.ms.now≤n)∧∀p∈s.ms.m,p.2.t≤n:=fun h=>⟨by omega,fun p hp=>by have:=R.fl p hp; omega⟩
 refine q8y (P:=fun q=>q25 q.1→Rch q.1) (fun _ _=>R) (fun _ _ _=>R) (fun _ _ _ hok=>⟨hok,R.sunk,R.mnow,R.val,R.keys,R.fl,R.rows,R.ag,R.cm,R.kept⟩) (fun hR hf hk hok=>?_) (fun hR hf hk hok=>?_) (fun hR hf hk hok=>?_) (fun hR hf hk hok=>?_) (fun hR hf hk hok=>?_) fun hR hf hk hok=>?_
 ·have hL:=q1j hR;have hnow:=q89 (by omega) (by omega) hf;rw [if_neg (by omega)] at hnow;obtain⟨u1,u2⟩:=nowup hnow;have hg:=qcn (most:=s.cfg.agents) ok.rows r.ag r.bt r.nw;revert hok;unfold q7k
  split
  ·exact fun _=>R
  rename_i hn;have hn:=Decidable.not_not.1 hn;have hb:¬bad r.ag r.bt r.nw:=by
   intro hb;unfold grant at hn;rw [if_pos hb] at hn; simp at hn
  split
  ·rename_i hf;intro hok
   rcases hg with ⟨-,g2,g3,g4,g5⟩|⟨g1,_⟩
   ·have hltr:r.ag.toNat < s.rows.length:=by rw [ok.rows.len]; have:=hL.ag; omega
    have hfull:¬((rowE s.rows r.ag).epoch=0∧full s.cfg.agents s.rows)∧(grant s.cfg.agents s.rows r.ag r.bt r.nw).2.1.time=r.nw∧(grant s.cfg.agents s.rows r.ag r.bt r.nw).2.1.boot=r.bt:=by
     unfold grant at hf hn ⊢;rw [if_neg hb] at hf hn ⊢;dsimp only at hf hn ⊢
     split at hf
     ·cases hf
     rename_i q1;rw [if_neg q1] at hn ⊢
     split at hf
     ·cases hf
     rename_i q2;rw [if_neg q2] at hn ⊢
     split at hf
     ·cases hf
     rename_i q3;rw [if_neg q3] at hn ⊢
     split at hf
     ·cases hf
     rename_i q4;rw [if_neg q4];exact⟨q4,rfl,rfl⟩
    have hop:=(open_ag (s:=s) ok R.ag hL.ag hfull.1 g2);generalize (grant s.cfg.agents s.rows r.ag r.bt r.nw)=G at *;have hrow:∀a,rowE G.1 a=if a=r.ag then G.2.1 else rowE s.rows a:=by
     intro a;rw [g2]
     by_cases e:a=r.ag
     ·rw [if_pos e,e,qz4 hL.ag.1 hltr]
     ·rw [if_neg e];unfold rowE
      by_cases h0:a < 0
      ·rw [if_pos h0,if_pos h0]
      ·rw [if_neg h0,if_neg h0,List.getElem?_set_ne (by have:=hL.ag; omega)]
    have hold:(oldM s r.ag).now=s.ms.now∧(oldM s r.ag).value=s.ms.value∧(∀p∈(oldM s r.ag).m,p.2.t≤r.nw)∧q08 r.ag (oldM s r.ag).m=none∧∀a,a≠r.ag→q08 a (oldM s r.ag).m=q08 a s.ms.m:=by
     unfold oldM
     cases hs:q3a s r.ag with
     | none=>
      dsimp only;refine⟨rfl,rfl,u2,?_,fun _ _=>rfl⟩
      have hk:=R.keys r.ag;have h0:¬0 < (rowE s.rows r.ag).epoch:=by
       intro h;have hlt:r.ag.toNat < 64:=by have:=hL.ag; omega
       have e1:((r.ag.toNat:Nat):Int)=r.ag:=by have:=hL.ag; omega
       have e2:rowE s.rows r.ag=s.rows[r.ag.toNat]:=by rw [← qpb hltr,e1]
       obtain⟨st,_,h2⟩:=R.str hlt (by rw [← e2]; exact h);rw [e1,hs] at h2
       cases h2
      rw [za8 h0] at hk
      cases h:q08 r.ag s.ms.m with
      | none=>rfl
      | some x=>rw [h] at hk; simp at hk
     | some st=>
      dsimp only;unfold MS.leave
      split
      ·rename_i h;exact⟨rfl,rfl,u2,h,fun _ _=>rfl⟩
      ·refine⟨rfl,rfl,fun p hp=>u2 p (qaw.1 hp).1,?_,fun a ha=>?_⟩
       ·dsimp only; rw [qlb,if_pos rfl]
       ·dsimp only; rw [qlb,if_neg ha]
    obtain⟨o1,o2,o3,o4,o5⟩:=hold;have hj:(oldM s r.ag).join r.ag r.nw=({ oldM s r.ag with m:=mset r.ag ⟨r.nw,false,false,false⟩ (oldM s r.ag).m },0):=by
     unfold MS.join;have h1:=hL.ag;have h2:=hL.nw;rw [if_neg (by unfold isAg isT; unfold isT at h2; omega),o4]
    rw [hj] at hok ⊢;refine⟨hok,R.sunk,by dsimp only; omega,by dsimp only; omega,fun a=>?_,fun p hp=>?_,fun a h=>?_,hop,R.cm,R.kept⟩
    ·dsimp only;rw [hrow,q3k]
     by_cases e:a=r.ag
     ·rw [if_pos e,if_pos e,z9b g3]; rfl
     ·rw [if_neg e,if_neg e,o5 a e]; exact R.keys a
    ·rcases q3z hp with rfl|hp
     ·exact z9g _
     ·exact o3 p hp
    ·dsimp only at h ⊢;rw [hrow] at h ⊢
     by_cases e:a=r.ag
     ·rw [if_pos e,hfull.2.1,hfull.2.2];have h1:=hL.bt;have h2:=hL.nw;exact⟨⟨h1.1 hk,h1.2.2⟩,h2.1,h2.2⟩
     ·rw [if_neg e] at h ⊢;exact R.rows a h
   ·rw [g1] at hf; cases hf
  ·rename_i hf;intro hok
   rcases hg with ⟨g1,_⟩|⟨-,g2,_⟩
   ·exact absurd g1 hf
   ·rw [g2] at hok ⊢;exact⟨hok,R.sunk,u1,R.val,R.keys,u2,R.rows,R.ag,R.cm,R.kept⟩
 ·have hL:=q1j hR;have hnow:=q89 (by omega) (by omega) hf;rw [if_pos hk] at hnow;obtain⟨u1,u2⟩:=nowup hnow;obtain⟨st,hst⟩:=q27 ok hL hf (.inl hk);revert hok;unfold qcm;rw [hst];intro hok;have hh:∀b,(s.ms.hold r.ag b).1.now=s.ms.now∧(s.ms.hold r.ag b).1.value=s.ms.value∧(∀a,(q08 a (s.ms.hold r.ag b).1.m).isSome=(q08 a s.ms.m).isSome)∧∀p∈(s.ms.hold r.ag b).1.m,p.2.t≤r.sm.came:=by
   intro b;unfold MS.hold
   split
   ·exact⟨rfl,rfl,fun _=>rfl,u2⟩
   ·rename_i x hx;refine⟨rfl,rfl,fun a=>?_,fun p hp=>?_⟩
    ·dsimp only;rw [q3k]
     split
     ·rename_i e; rw [e,hx]; rfl
     ·rfl
    ·rcases q3z hp with rfl|hp
     ·have:=u2 (r.ag,x) (q0e hx);exact this
     ·exact u2 p hp
  obtain⟨h1,h2,h3,h4⟩:=hh (qf7 st.ck r.sm).1.held;refine⟨hok,R.sunk,?_,?_,fun a=>?_,h4,R.rows,R.ag,R.cm,R.kept⟩
  ·dsimp only; rw [h1]; exact u1
  ·dsimp only; rw [h1,h2]; exact R.val
  ·dsimp only; rw [h3]; exact R.keys a
 ·have hL:=q1j hR;have hnow:=q89 (by omega) (by omega) hf;rw [if_neg (by omega)] at hnow;obtain⟨u1,u2⟩:=nowup hnow;obtain⟨st,hst⟩:=q27 ok hL hf (.inr (.inl hk));have hsok:=ok.sts st (z9i hst);have hb:=hL.evs hk;unfold q4v at hb;simp only [z8w,z8u,z9v] at hb;obtain⟨⟨hb1,hb2⟩,⟨⟨hb3,hb4⟩,hb5⟩,hb6⟩:=hb;have hm:=qad (s:=st.hs) (first:=r.nx) (items:=r.evs);have good:∀e∈(st.hs.offer r.nx r.evs).2.1,q7p e=true∧wf64 e.value:=by
   intro e he
   rcases hm.1 e he with h|⟨q,h,rfl⟩
   ·exact⟨hb6 e h,hv e h⟩
   ·exact (hsok.rows q h).2
  have hj:=qzb (c:=s.cfg) (now:=r.nw) (a:=r.ag) (ep:=r.ep) (first:=st.hs.next) (evs:=(st.hs.offer r.nx r.evs).2.1) (x:=⟨{ st with hs:=(st.hs.offer r.nx r.evs).1 },s.ms,s.cm⟩) ok.cfg.gd hL.nw ok.ms good u2 R.cl _ (z91 _);revert hok;unfold q76;rw [hst];dsimp only;unfold qai;generalize q16 s.cfg r.nw r.ag r.ep st.hs.next (st.hs.offer r.nx r.evs).2.1 ⟨{ st with hs:=(st.hs.offer r.nx r.evs).1 },s.ms,s.cm⟩ (st.hs.offer r.nx r.evs).2.1.length=G at *;intro hok;obtain⟨j1,j2,j3⟩:=hj;refine⟨hok,R.sunk,?_,?_,fun a=>?_,j2.fl,R.rows,R.ag,cmG hok j3,R.kept⟩
  ·dsimp only at j2 ⊢; rw [j2.now]; exact u1
  ·dsimp only at j2 ⊢; rw [j2.now,j2.value]; exact R.val
  ·dsimp only at j2 ⊢; rw [j2.keys]; exact R.keys a
 ·have hL:=q1j hR;have hnow:=q89 (by omega) (by omega) hf;rw [if_neg (by omega)] at hnow;obtain⟨u1,u2⟩:=nowup hnow;obtain⟨st,hst⟩:=q27 ok hL hf (.inr (.inr hk));revert hok;unfold qsl;rw [hst];dsimp only
  split
  ·exact fun hok=>⟨hok,R.sunk,u1,R.val,R.keys,u2,R.rows,R.ag,R.cm,R.kept⟩
  split
  ·exact fun hok=>⟨hok,R.sunk,u1,R.val,R.keys,u2,R.rows,R.ag,R.cm,R.kept⟩
  ·rename_i hT;intro hok;obtain⟨t1,t2,t3⟩:=qz5 (Decidable.not_not.1 hT);have j2:=z8o (a:=r.ag) (t:=(q1q st.ck (flOf s.ms r.ag) r.nw r.st).1.lo) u2 (by omega);refine⟨hok,R.sunk,?_,?_,fun a=>?_,j2.fl,R.rows,R.ag,R.cm,R.kept⟩
   ·dsimp only; rw [j2.now]; exact u1
   ·dsimp only; rw [j2.now,j2.value]; exact R.val
   ·dsimp only; rw [j2.keys]; exact R.keys a
 ·have hL:=q1j hR;have hnow:=q89 (by omega) (by omega) hf;rw [if_neg (by omega)] at hnow;obtain⟨u1,u2⟩:=nowup hnow;have hnw:=hL.nw;have hlag:=ok.ms.l1;have hll:=ok.lag;have ht:s.ms.tick r.nw=({ s.ms with now:=r.nw,value:=maxI s.ms.value (qbj (r.nw - s.ms.lag) s.ms.m (q64 (q00 s.ms.m)) (r.nw - s.ms.lag,false)).1,m:=s.ms.m.map fun p=>(p.1,updF (r.nw - s.ms.lag) p.2) },0):=by
   unfold MS.tick;rw [if_neg (by intro h; rcases h with h|h; exact h hnw; omega)]
  have f1:=z8i (lim:=r.nw - s.ms.lag) u2 hnw.1 (q64 (q00 s.ms.m)) (r.nw - s.ms.lag,false) (by dsimp only; omega);have f2:=qzc (lim:=r.nw - s.ms.lag) (m:=s.ms.m) (q64 (q00 s.ms.m)) (r.nw - s.ms.lag,false) (z9g _);revert hok;unfold qfi qkt;rw [ht];intro hok;have hcl:∀p∈qbu s.cm (q1o s.cfg.gd (maxI s.ms.value (qbj (r.nw - s.ms.lag) s.ms.m (q64 (q00 s.ms.m)) (r.nw - s.ms.lag,false)).1)),qk6 p:=fun p hp=>R.cm p (z3u.1 hp).1
  refine⟨hok,R.sunk,⟨hnw.1,z9g _⟩,?_,fun a=>?_,fun p hp=>?_,R.rows,R.ag,hcl,fun o ho=>?_⟩
  ·dsimp only;unfold maxI
   split <;> omega
  ·dsimp only;have:=qe2 (f:=fun (_:Int)=>updF (r.nw - s.ms.lag)) (k:=a) (m:=s.ms.m)
   rw [this,← R.keys a]
   cases q08 a s.ms.m <;> rfl
  ·obtain⟨q,hq,rfl⟩:=z90.1 hp;exact u2 q hq
  ·rcases za4.1 ho with ho|ho
   ·exact R.kept o ho
   ·exact R.cm o (qtj (qme ho))
 ·revert hok;unfold qwi
  split
  ·intro hok;have hL:=q1j hR;exact⟨hok,by have:=hL.nx; exact this.2,R.mnow,R.val,R.keys,R.fl,R.rows,R.ag,R.cm,fun o ho=>R.kept o (zaz ho)⟩
  ·exact fun _=>R
theorem Rch.ser {s:Sta}(R:Rch s):qwl s:=⟨fun p hp=>(R.cm p hp).size,fun o ho=>(R.kept o ho).size⟩
open Go.Proofs.YtfmkddccnjidmaaGreatDoor
theorem qmp {f:Nat→Int}{is:List Nat}(h:∀i∈is,wf64 (f i))(r:List Int):∀j,j≤is.length→q94 j ⟨0,(is.flatMap fun i=>usB [f i])++r⟩=.ok ((is.take j).map f,⟨0,((is.drop j).flatMap fun i=>usB [f i])++r⟩)
 | 0,_=>rfl
 | j+1,hj=>by
  have hlt:j < is.length:=by omega
  unfold q94;rw [qmp h r j (by omega)];dsimp only;rw [z9z hlt,z9w,z93,q2e (h _ (z92 hlt))];dsimp only;rw [zae,List.getElem?_eq_getElem hlt,z9k]; rfl
theorem qk8 {l:List Pv}(h:∀e∈l,q7p e=true∧wf64 e.value)(r:List Int):∀j,j≤l.length→q5e j ⟨0,l.flatMap evB++r⟩=.ok (l.take j,⟨0,(l.drop j).flatMap evB++r⟩)
 | 0,_=>rfl
 | j+1,hj=>by
  have hlt:j < l.length:=by omega
  have hm:=h _ (z92 hlt);unfold q5e;rw [qk8 h r j (by omega)];dsimp only;rw [z9z hlt,z9w,z93,qmm hm.1 hm.2];dsimp only;rw [zae,List.getElem?_eq_getElem hlt]; rfl
theorem atV_map {k:Int}{f:Nat→Int}{i:Nat}:atV k ((ordK k).map f) i=if i∈ordK k then f i else 0:=by
 unfold atV
 split
 ·rename_i h;have hl:=List.idxOf_lt_length_iff.2 h;rw [zbp,List.getElem?_map,List.getElem?_eq_getElem hl,List.getElem_idxOf hl]; rfl
 ·rfl
theorem nums_wf {r:Rp}(hL:RLim r)(i:Nat):wf64 (r.nums i):=by
 have h1:=hL.ag;have h2:=hL.ep;have h3:=hL.bt;have h4:=hL.nx;have h5:=hL.st;have h6:=hL.nw;have h7:=hL.sm.wf;unfold Smp.wf at h7;unfold isT at *;unfold Rp.nums
 split <;> first|exact h7.1|exact h7.2.1|exact h7.2.2.1|exact h7.2.2.2|(unfold wf64; omega)
theorem rec_back {r:Rp}(hR:r.right=true)(hv:∀e∈r.evs,wf64 e.value):recR r.bytes=.ok r:=by
 have hL:=q1j hR;have hz:=qwx hR;have hk:=hL.kind;have hev:(r.kind=4→r.evs.length≤64∧∀e∈r.evs,q7p e=true∧wf64 e.value)∧(¬r.kind=4→r.evs=[]):=by
  refine⟨fun h4=>?_,fun h4=>?_⟩
  ·have hb:=hL.evs h4;unfold q4v at hb;simp only [z8w,z8u,z9v] at hb;exact⟨hb.2.1.1.2,fun e he=>⟨hb.2.2 e he,hv e he⟩⟩
  ·unfold Rp.right at hR;rw [if_neg h4] at hR;simp only [z8w,z8u] at hR;exact zbf.1 hR.1.2
 have e:r.bytes=usB [r.kind]++(((ordK r.kind).flatMap fun i=>usB [r.nums i])++((if r.kind=4 then usB [((r.evs.length:Nat):Int)] else [])++(r.evs.flatMap evB++[]))):=by
  unfold Rp.bytes;rw [if_pos hR];simp only [z93,z9o]
 have hfill:qff r.kind ((ordK r.kind).map r.nums) r.evs=r:=by
  unfold Rp.zeros at hz;simp only [z8w,z8u] at hz;have key:∀i x,r.nums i=x→zrK r.kind i x=0→atV r.kind ((ordK r.kind).map r.nums) i=x:=by
   intro i x h1 h2;rw [atV_map];unfold zrK at h2
   split
   ·exact h1
   ·rename_i h;rw [if_neg h] at h2;exact h2.symm
  unfold qff;obtain⟨⟨⟨⟨⟨⟨z1,z2⟩,z3⟩,z4⟩,z5⟩,z6⟩,⟨⟨z7,z8⟩,z9⟩,z10⟩:=hz;rw [key 1 r.ag rfl z1,key 2 r.ep rfl z2,key 3 r.bt rfl z3,key 4 r.nx rfl z4,key 5 r.st rfl z5,key 6 r.nw rfl z6,key 7 r.sm.asked rfl z7,key 8 r.sm.got rfl z8,key 9 r.sm.sent rfl z9,key 10 r.sm.came rfl z10]
 unfold recR;rw [e,qhf (by omega) (by omega)];dsimp only;rw [if_neg (by omega),qmp (fun i _=>nums_wf hL i) _ _ (z91 _),zab,zao]
 dsimp only;have fin:evsR r.kind ⟨0,([]:List Nat).flatMap (fun i=>usB [r.nums i])++((if r.kind=4 then usB [((r.evs.length:Nat):Int)] else [])++(r.evs.flatMap evB++[]))⟩=.ok (r.evs,⟨0,[]⟩):=by
  unfold evsR
  split
  ·rename_i h4;obtain⟨h5,h6⟩:=hev.1 h4;have ec:q22 64 ⟨0,([]:List Nat).flatMap (fun i=>usB [r.nums i])++(usB [((r.evs.length:Nat):Int)]++(r.evs.flatMap evB++[]))⟩=.ok (((r.evs.length:Nat):Int),⟨0,r.evs.flatMap evB++[]⟩):=q88 (by omega) (by omega) _
   rw [ec];dsimp only;rw [z8z,qk8 h6 _ _ (z91 _),zab,zao];rfl
  ·rename_i h4;rw [hev.2 h4];rfl
 rw [fin];dsimp only;rw [show (q21 ⟨0,[]⟩).e=0 from rfl,if_neg (by simp),hfill,hR,if_pos rfl]
namespace Al
def c0:Cfg:=⟨10,0,1000,100,100,2,4,40,8⟩
def r1:Rp:=⟨2,3,0,1,0,0,0,Smp.z,[]⟩
def r2:Rp:=⟨3,3,1,0,0,0,0,⟨0,0,0,2⟩,[]⟩
def e0:Pv:=⟨5,7,⟨#[109]⟩,[]⟩
def r3:Rp:=⟨4,3,1,0,0,0,9,Smp.z,[e0]⟩
def r4:Rp:=⟨6,0,0,0,0,0,200,Smp.z,[]⟩
def r5:Rp:=⟨6,0,0,0,0,0,199,Smp.z,[]⟩
def r6:Rp:=⟨7,0,0,0,1,0,0,Smp.z,[]⟩
def r7:Rp:=⟨1,0,0,0,0,0,0,Smp.z,[]⟩
def A1:=q3h (newS c0) r1
def A2:=q3h A1.1 r2
def A3:=q3h A2.1 r3
def A4:=q3h A3.1 r4
def A5:=q3h A4.1 r5
def A6:=q3h A5.1 r6
def A7:=q3h A6.1 r7
theorem ok0:qbk c0:=qjs (by kernel_rfl)
theorem nov {r:Rp}(h:r.evs=[]):∀e∈r.evs,wf64 e.value:=fun e he=>by rw [h] at he; cases he
theorem R1:Rch A1.1:=q8z (qwz ok0) (nov rfl)
theorem R2:Rch A2.1:=q8z R1 (nov rfl)
theorem R3:Rch A3.1:=q8z R2 fun e he=>by
 have:e=e0:=by simpa [r3] using he
 rw [this]; show wf64 7; decide
theorem R4:Rch A4.1:=q8z R3 (nov rfl)
theorem R5:Rch A5.1:=q8z R4 (nov rfl)
theorem R6:Rch A6.1:=q8z R5 (nov rfl)
end Al
end Go.Nm
namespace Go.Proofs.YtfmkddccnjidmaaGreatDoor
open Go.Nm
section
variable {F L:List Assn} {H H0:Heap} {K KP:Value→Heap→Prop} {Q Q':Assn} {sb:Nat} {s:Sta}
theorem qfp (h:SatL H F)(k:∀H',SatL H' F→K (.agg ⟨qgr Al.c0⟩) H'):CF 30 #[] H K:=by
 refine Small_c ?_;refine h.al fun b _ h=>?_
 refine h.st 0 rfl rfl ?_;intro H2 h;exact⟨_,_,_,_,_,_,_,_,_,h.q 0,k _ h.tl⟩
theorem q90 {sb:Nat}{s:Sta}{r:Rp}{a:Option Addr}{c n:Nat}{e:Int}{A:Sta × List Eff × Int}{evs:List Ev}(hA:q3h s r=A)(hn:A.2.1.length=n)(he:A.2.2=e)(R:Rch s)(hkl:s.kept.length=0∨s.kept.length=1)(hr:z3d Q F r a evs)(h:SatL H (Q::stA Q sb s::F))
  (k:∀Q' a' c' H',Sub Q Q'→SatL H' (Q'::slA 66 87 a' n c' (flat q37 A.2.1)::stA Q' sb A.1::F)→K (.tuple #[.slice a' n c',I64 e]) H') :
  CF 17 #[PA sb 0,.agg ⟨encR r a c⟩] H K:=by
 subst hA; subst hn; subst he;exact qmd R.ok (by have:=R.sunk; omega) (by omega) hr h k
theorem qmq {r:Rp}(h:r.evs=[]):z3d Q F r none []:=⟨h,fun H _=>q9p H _,fun e he=>absurd he (by simp),by simp,Al.nov h⟩
theorem eq51:q5v Tryz.prog .eql 51 (.agg #[I64 0,I64 0]) (.agg #[I64 0,I64 0]) true:=
 (qay (P:=Tryz.prog) (t:=51) (xs:=[I64 0,I64 0]) (ys:=[I64 0,I64 0]) (r:=true) (by kernel_rfl)).1
theorem stB_len (ok:q25 s)(ser:qwl s)(hk:s.kept.length≤50000):(stB s).length≤1000000000:=by
 have h1:=qys (s:=s);have h2:=q8v (f:=agOf s) (l:=tab 0 s.rows) (B:=345000) fun p _=>qhc ok p
 have h3:=qyh ok.rows;have h4:=q8v (f:=ceB) (l:=q0j s.cm) (B:=10100) fun o ho=>by
  obtain⟨q,hq,e⟩:=qjw ho;exact qoy (qhb ok.sh _ ho) (by rw [← e]; exact ser.cm q hq)
 have h5:=q8v (f:=ceB) (l:=s.kept) (B:=10100) fun o ho=>qoy (ok.kept o ho) (ser.kept o ho)
 have h6:=q80 s.cm;have h7:=ok.sh.len;have h8:=ok.sh.m2;have q1:=q1a [(s.cm.length:Int)];have q2:=q1a [(s.kept.length:Int)];have m1:345000*(tab 0 s.rows).length≤345000*64:=zb1 _ h3;have m2:10100*(q0j s.cm).length≤10100*1024:=zb1 _ (by omega);have m3:10100*s.kept.length≤10100*50000:=zb1 _ hk;unfold stB stB3 stB2;simp only [z8t,z8y,z9j] at *;omega
theorem rbytes3:q04 Al.r3.bytes:=by
 unfold Rp.bytes
 split
 ·refine q0d (q0d (q0d (q2o _) (q10 fun _ _=>q2o _)) ?_) (q10 fun _ _=>qsa _)
  split
  ·exact q2o _
  ·exact q2s
 ·exact q2s
set_option maxHeartbeats 8000000 in
theorem z42 (h:SatL H (Q::F))(k:∀Q' H',Sub Q Q'→SatL H' (Q'::F)→K (.bool true) H'):CF 9 #[] H K:=by
 refine alive_c ?_;refine qfp h fun H1 h=>⟨_,_,_,_,_,_,_,_,_,rfl,?_⟩
 refine qfk (Q:=Q) (c:=Al.c0) h (fun hc=>absurd hc (by rw [show cfgR Al.c0=true by kernel_rfl]; simp)) fun _ sb H2 h=>⟨_,_,rfl,fun hf=>absurd hf (by simp),fun _=>?_⟩
 have h:=h.o [1,0] 2;refine q90 (r:=Al.r1) (a:=none) (c:=0) (n:=1) (e:=0) (A:=Al.A1) rfl (by kernel_rfl) (by kernel_rfl) (qwz Al.ok0) (.inl (by kernel_rfl)) (qmq rfl) h fun Q1 a1 c1 H3 hs1 h=>⟨_,_,_,_,rfl,?_⟩
 have h:=h.o [0,2,1] 3;refine q90 (r:=Al.r2) (a:=none) (c:=0) (n:=0) (e:=0) (A:=Al.A2) rfl (by kernel_rfl) (by kernel_rfl) Al.R1 (.inl (by kernel_rfl)) (qmq rfl) h fun Q2 a2 c2 H4 hs2 h=>⟨_,_,_,_,rfl,?_⟩
 refine h.al fun b _ h=>?_
 refine h.st 0 rfl rfl ?_;intro H5 h;refine⟨_,_,_,_,h.q 0,?_⟩;refine h.al fun b1 _ h=>?_
 refine h.al fun b2 _ h=>?_
 refine h.st 0 rfl rfl ?_;intro H6 h;refine⟨_,_,_,_,_,_,_,_,_,_,_,_,_,_,h.q 0,?_⟩;have h:=h.o [3,5,0,1,6] 7;have hev:∀G:List Assn,z3d Q2 (cellsA b2 [I64 4,I64 3,I64 1,I64 0,I64 0,I64 0,I64 9,I64 0,I64 0,I64 0,I64 0,.slice (some ⟨b1,0,none⟩) 1 1] 46::cellsA b1 [I64 5,I64 7,.string ⟨#[109]⟩,.slice none 0 0] 95::G) Al.r3 (some ⟨b1,0,none⟩) [⟨5,7,⟨#[109]⟩,[],none,0⟩]:=fun G=>
  ⟨rfl,fun H h=>h.ce_rd 1 rfl,fun e he=>by
   rw [z9q] at he; subst he;exact KIn.nil _ _,by simp,fun e he=>by
   have:e=Al.e0:=by simpa [Al.r3] using he
   rw [this]; show wf64 7; decide⟩
 refine q90 (r:=Al.r3) (a:=some ⟨b1,0,none⟩) (c:=1) (n:=2) (e:=0) (A:=Al.A3) rfl (by kernel_rfl) (by kernel_rfl) Al.R2 (.inl (by kernel_rfl)) (hev _) h fun Q3 a3 c3 H7 hs3 h=>⟨_,_,_,_,rfl,?_⟩
 have h:=h.o [2,0,1,3,4,5] 6;have eAg:qyo Al.A3.1 3=(⟨⟨1,1,0⟩,⟨4,false,false,false⟩,5,1,0,1⟩,true):=by kernel_rfl
 refine qwk (a:=3) Al.R3.ok h fun H8 h=>?_
 rw [eAg];refine⟨_,_,_,_,_,_,_,_,_,_,_,_,rfl,?_⟩;refine h.al fun b3 _ h=>?_
 refine h.st 0 rfl rfl ?_;intro H9 h;have h:=h.o [1,0,2,3,4,5,6] 7;have eAt:atS Al.A3.1 3 5=(⟨4,8⟩,0):=by kernel_rfl
 refine z7p (a:=3) (stamp:=5) Al.R3.ok h fun H10 h=>?_
 rw [eAt];refine⟨_,_,_,rfl,?_⟩;refine h.al fun b4 _ h=>?_
 refine h.st 0 rfl rfl ?_;intro H11 h;have h:=h.o [3,1,0,2,4,5,6,7] 8;refine q90 (r:=Al.r4) (a:=none) (c:=0) (n:=1) (e:=0) (A:=Al.A4) rfl (by kernel_rfl) (by kernel_rfl) Al.R3 (.inl (by kernel_rfl)) (qmq rfl) h fun Q4 a4 c4 H12 hs4 h=>⟨_,_,_,_,rfl,?_⟩
 refine qfp h fun H13 h=>⟨_,_,_,_,_,_,_,_,_,rfl,?_⟩
 have h:=h.o [0,2,1,3,4,5,6,7,8] 9;refine qjx Al.R4.ok Al.R4.ser (by rw [show Al.A4.1.kept.length=1 by kernel_rfl]; decide) h fun ab cb H14 h=>⟨_,_,_,rfl,?_⟩
 have hsA:ab=none∨∃k o,ab=some ⟨k,o,none⟩:=by
  rcases (q3i (F:=star _) h).2 with ⟨h2,_⟩|⟨b,pre,post,e',fr,h2,_⟩
  ·exact .inl h2
  ·exact .inr ⟨_,_,h2⟩
 have h:=h.o [1,0,2,3,4,5,6,7,8,9] 10;have hk1:Al.A4.1.kept.length=1:=by kernel_rfl
 have hcf:Al.A4.1.cfg=Al.c0:=by kernel_rfl
 have hp1:q7l Al.c0 (stB Al.A4.1)=.ok (q8a Al.A4.1):=by
  have:=z3x Al.R4 (by rw [hk1]; decide);rw [hcf] at this;exact this
 have hpS:qge Al.c0 (stB Al.A4.1)=.ok (q8a Al.A4.1):=by
  unfold qge;rw [if_neg (by rw [show cfgR Al.c0=true by kernel_rfl]; simp),hp1];dsimp only;rw [if_pos (z40 Al.R4)]
 have hll:(stB Al.A4.1).length≤1000000000:=stB_len Al.R4.ok Al.R4.ser (by rw [hk1]; decide);refine z3m (c:=Al.c0) h (fun H h=>h.sl_rd 0 rfl) hsA (qt2 _) hll (fun _ s hs=>?_) (fun hc=>absurd hc (by rw [show cfgR Al.c0=true by kernel_rfl]; simp)) (fun _ e he=>by rw [hpS] at he; cases he) fun _ s hs=>?_
 ·rw [hp1] at hs
  cases hs
  exact⟨⟨fun p hp=>(Al.R4.ser).cm p ((qei Al.R4).2.mem_iff.2 hp),Al.R4.ser.kept⟩,by show Al.A4.1.kept.length≤_; rw [hk1]; decide⟩
 rw [hpS] at hs
 cases hs
 intro Q5 tb H15 hs5 h;refine⟨_,_,rfl,?_⟩;refine⟨_,_,_,_,_,_,_,_,_,_,_,_,_,_,h.q 8,?_⟩;have h:=h.o [8,9,0,1,2,3,4,5,6,7,10] 11;refine qw4 (r:=Al.r3) (a:=some ⟨b1,0,none⟩) (c:=1) (evs:=[⟨5,7,⟨#[109]⟩,[],none,0⟩]) rfl h ⟨fun H h=>h.ce_rd 1 rfl,fun e he H h=>by
   rw [z9q] at he; subst he;exact q9p _ _⟩ (by simp) fun ar cr H16 h=>⟨_,_,_,rfl,?_⟩
 have h:=h.o [3,0,1,2,4,5,6,7,8,9,10,11] 12;have hrb:recR Al.r3.bytes=.ok Al.r3:=rec_back (by kernel_rfl) fun e he=>by
  have:e=Al.e0:=by simpa [Al.r3] using he
  rw [this]; show wf64 7; decide
 refine z74 (bs:=Al.r3.bytes) h (fun H h=>h.sl_rd 1 rfl) rbytes3 (by rw [show Al.r3.bytes.length=11 by kernel_rfl]; decide) ?_
 rw [hrb];intro Q6 evs ad cd H17 hs6 hevs hlab h;have hel:evs.length=1:=by
  have:=congrArg List.length hevs;rw [z9c] at this;exact this.symm
 refine⟨_,_,_,_,_,_,_,_,_,_,_,_,_,_,_,rfl,?_⟩;refine h.al fun b5 _ h=>?_
 refine h.st 0 rfl rfl ?_;intro H18 h;have h:=h.o [8,1,6,0,2,9,10,11,12,13] 14;have h:=qwe (hs5.trans hs6) h;have h:=h.o [2,0,1,3,4,5,6,7,8,9] 10;have h:=qwe hs6 h;have h:=h.o [2,1,0,3,4,5,6,7,8,9] 10;refine q90 (r:=Al.r5) (a:=none) (c:=0) (n:=0) (e:=11) (A:=Al.A5) rfl (by kernel_rfl) (by kernel_rfl) Al.R4 (.inr (by kernel_rfl)) (qmq rfl) h fun Q7 a7 c7 H19 hs7 h=>⟨_,_,_,_,rfl,?_⟩
 have h:=h.o [0,2,3,4,5,6,7,8,9,10] 11;refine q90 (r:=Al.r6) (a:=none) (c:=0) (n:=0) (e:=0) (A:=Al.A6) rfl (by kernel_rfl) (by kernel_rfl) Al.R5 (.inr (by kernel_rfl)) (qmq rfl) h fun Q8 a8 c8 H20 hs8 h=>⟨_,_,_,_,rfl,?_⟩
 have h:=h.o [0,2,3,4,5,6,7,8,9,10] 11;refine q90 (r:=Al.r7) (a:=none) (c:=0) (n:=0) (e:=0) (A:=Al.A7) rfl (by kernel_rfl) (by kernel_rfl) Al.R6 (.inl (by kernel_rfl)) (qmq rfl) h fun Q9 a9 c9 H21 hs9 h=>⟨_,_,_,_,rfl,fun hf=>absurd hf (by simp),fun _=>?_⟩
 have h:=h.o [0,2,3,4,5,6,7,8,9,10] 11;refine h.al fun b6 _ h=>?_
 refine h.st 0 rfl rfl ?_;intro H22 h;have h:=h.o [3,0,1,2,4,5,6,7,8,9,10] 11;refine qwq h fun hb c0 H23 hp=>⟨_,_,rfl,rfl,fun R hR1 hR2 hy=>?_⟩
 obtain⟨p,rfl,h⟩:=hp;have h:=h.rng R;have hcm:(q8a Al.A4.1).cm.length=0:=by kernel_rfl
 have hol:(q0j (q8a Al.A4.1).cm).length=0:=by rw [q80,hcm]
 refine qcg (sb:=p.hb) (mb:=p.hm) (m:=(q8a Al.A4.1).cm) (c0:=c0) (by omega) (fun _=>star [shC p.hb p.hm (q8a Al.A4.1).cfg.cells,mapC p.hm (q8a Al.A4.1).cm,pt (H23.size+1) (.loop R)]) (fun _=>pur False) (pt (H23.size+1) (.loop R))
  (h.o [2,8,9,0,1,3,4,5,6,7,10,11,12,13,14,15,16,17,18,19,20,21] 22) (fun G H' h=>SatL.shut [_,_,_] h) (fun j hj=>absurd hj (by omega)) (fun H24 h=>?_) (fun j H' hj=>absurd hj (by omega))
 have h:=SatL.open (A:=[_,_,_]) h;refine⟨.ready,none,by decide,by rw [q66 hR1 hR2]; exact h.getO 2 rfl,h.stl 2 rfl fun H25 h=>⟨rfl,?_⟩⟩
 intro Jn hJ;have r1:=h.sl_rd 20 rfl;have r3:=h.sl_rd 19 rfl;have r4:=h.sl_rd 16 rfl;have l1:0 < Al.A1.2.1.length:=by rw [show Al.A1.2.1.length=1 by kernel_rfl]; decide
 have l3:0 < Al.A3.2.1.length:=by rw [show Al.A3.2.1.length=2 by kernel_rfl]; decide
 have l3':1 < Al.A3.2.1.length:=by rw [show Al.A3.2.1.length=2 by kernel_rfl]; decide
 have l4:0 < Al.A4.2.1.length:=by rw [show Al.A4.2.1.length=1 by kernel_rfl]; decide
 refine⟨fun _=>by decide,_,_,fun _=>r1.some q0u (by decide) l1,_,fun _=>r1.el q0u l1 0 (v:=I64 1) (by kernel_rfl),
  fun _=>by decide,_,_,fun _=>r1.some q0u (by decide) l1,_,fun _=>r1.el q0u l1 2 (v:=I64 1) (by kernel_rfl),
  fun _=>by decide,_,_,fun _=>r3.some q0u (by decide) l3,_,fun _=>r3.el q0u l3 0 (v:=I64 3) (by kernel_rfl),
  fun _=>by decide,_,_,fun _=>r3.some q0u (by decide) l3,_,_,fun _=>⟨r3.el q0u l3 9 (v:=I64 0) (by kernel_rfl),r3.el q0u l3 10 (v:=I64 0) (by kernel_rfl)⟩,true,fun _=>eq51,
  fun _=>by decide,_,_,fun _=>r3.some q0u (by decide) l3,_,fun _=>r3.el q0u l3' 0 (v:=I64 2) (by kernel_rfl),
  fun _=>by decide,_,_,fun _=>r3.some q0u (by decide) l3,_,fun _=>r3.el q0u l3' 4 (v:=I64 1) (by kernel_rfl),
  fun _=>by decide,_,_,fun _=>r4.some q0u (by decide) l4,_,fun _=>r4.el q0u l4 0 (v:=I64 4) (by kernel_rfl),
  fun _=>by decide,_,_,fun _=>r4.some q0u (by decide) l4,_,fun _=>r4.el q0u l4 19 (v:=I64 7) (by kernel_rfl),
  fun _=>by decide,_,_,fun _=>r4.some q0u (by decide) l4,_,fun _=>r4.el q0u l4 20 (v:=I64 1) (by kernel_rfl),
  _,fun _=>h.r 18,_,fun _=>h.r 18,_,fun _=>h.r 17,_,fun _=>h.r 17,_,_,_,fun _=>h.r 14,
  _,_,_,_,_,_,_,_,_,_,_,_,_,_,fun _=>h.q 14,fun _=>?_,fun hn=>?_⟩
 rotate_left
 ·exact absurd (by kernel_rfl) hn
 refine q8s (r:=Al.r3) (evs:=evs) hevs h ⟨fun H h=>h.sl_rd 15 rfl,fun e he H h=>(hlab e he |>.sub (hs7.trans (hs8.trans hs9))).at h 12 rfl⟩ (by rw [hel]; decide) fun H26 h=>⟨_,rfl,_,fun _=>h.r 11,fun _=>?_,fun hn=>absurd (by kernel_rfl) hn⟩
 have h:=h.o [4,5,6,7,8,0,1,9,10,2,3,11,12,13] 21;have h:SatL H26 (stA Q6 tb (q8a Al.A4.1)::_):=q0i.2 ⟨p,h⟩;refine qmf (by rw [show (q8a Al.A4.1).kept.length=1 by kernel_rfl]; decide) h fun ak ck H27 h=>⟨_,_,_,rfl,fun _=>?_,fun hn=>absurd (by kernel_rfl) hn⟩
 have h:=h.o [6,1,2,3,4,5] 7;refine qmf (by rw [show Al.A7.1.kept.length=0 by kernel_rfl]; decide) h fun ak2 ck2 H28 h=>⟨_,_,_,rfl,?_⟩
 have h:=h.o [1,2,3,4,5,6] 7;have ht:=h.o [1] 2;refine⟨_,fun _=>z3f h,_,fun _=>qjt h,_,fun _=>z7o h,_,fun _=>qwj h,_,fun _=>qjt ht,fun _=>?_,fun hn=>absurd (by kernel_rfl) hn⟩
 refine qfp h fun H29 h=>⟨_,_,_,_,_,_,_,_,_,rfl,?_⟩
 refine qe8 (c:=Al.c0) h fun H30 h=>⟨_,rfl,hJ _ _ ?_⟩
 refine⟨h.getO 3 rfl,?_⟩;have h:=h.setO 3 rfl (.deferred none);rw [show cfgR Al.c0=true by kernel_rfl];exact k Q9 _ (hs1.trans (hs2.trans (hs3.trans (hs4.trans (hs5.trans (hs6.trans (hs7.trans (hs8.trans hs9)))))))) (h.o [5] 6)
end
end Go.Proofs.YtfmkddccnjidmaaGreatDoor
namespace Go.Nm
theorem z43 {s:Sta}{r:Rp}(ok:q25 s):(qtf s r).cfg=s.cfg∧(qtf s r).kept.length≤s.kept.length+s.cfg.cells.toNat:=by
 unfold qtf;have triv:s.cfg=s.cfg∧s.kept.length≤s.kept.length+s.cfg.cells.toNat:=⟨rfl,by omega⟩;refine q8y (P:=fun x=>x.1.cfg=s.cfg∧x.1.kept.length≤s.kept.length+s.cfg.cells.toNat) (fun _=>triv) (fun _ _=>triv) (fun _ _ _=>triv) (fun _ _ _=>?_) (fun _ _ _=>?_) (fun _ _ _=>?_) (fun _ _ _=>?_) (fun _ _ _=>?_) (fun _ _ _=>?_)
 ·unfold q7k; split
  ·exact triv
  ·split <;> exact triv
 ·dsimp only; unfold qcm; split <;> exact triv
 ·dsimp only; unfold q76; split <;> exact triv
 ·dsimp only; unfold qsl
  split
  ·split
   ·exact triv
   ·split <;> exact triv
  ·exact triv
 ·dsimp only; unfold qfi qkt;have h1:(q4o s.cm (q1o s.cfg.gd (s.ms.tick r.nw).1.value)).length≤(q0j s.cm).length:=by unfold q4o; exact (List.takeWhile_sublist _).length_le
  have h2:(q0j s.cm).length=s.cm.length:=by unfold q0j; rw [z9c,q7z]; simp [q00]
  have h3:=ok.sh.len;dsimp only;rw [z8t];exact⟨rfl,by omega⟩
 ·dsimp only; unfold qwi
  split
  ·dsimp only; rw [z9m]; exact⟨rfl,by omega⟩
  ·exact triv
theorem qmr {c:Cfg}{now a ep first:Int}{evs:List Pv}{x:JS}:∀n,(q16 c now a ep first evs x n).2.length=n
 | 0=>rfl
 | n+1=>by
  show ((q16 c now a ep first evs x n).2++[_]).length=_;rw [z8t,qmr n]; rfl
theorem qms {c:Cfg}{st:Str}(hsok:qgt c st):st.hs.rows.length≤256:=by
 have hrl:=hsok.hs.rows.length;have hm2:=hsok.hs.most2;omega
theorem z8p {s:Sta}{r:Rp}(ok:q25 s)(he:r.evs.length≤100):(effS s r).length≤2000:=by
 unfold effS;refine q8y (P:=fun x=>x.2.1.length≤2000) (fun _=>by simp) (fun _ _=>by simp) (fun _ _ _=>by simp) (fun _ _ _=>?_) (fun _ _ _=>by simp) (fun _ _ _=>?_) (fun _ _ _=>by simp) (fun _ _ _=>?_) (fun _ _ _=>by simp)
 ·unfold q7k
  split
  ·simp
  split
  ·have:(oldE s r.ag).length≤256:=by
    unfold oldE
    split
    ·rename_i st hst;have hm:some st∈s.sts:=by
      unfold q3a at hst
      split at hst
      ·cases hst
      ·cases hq:s.sts[r.ag.toNat]? with
       | none=>rw [hq] at hst; cases hst
       | some o=>
        rw [hq] at hst
        cases o with
        | none=>cases hst
        | some st'=>cases hst; exact z9i hq
     have:=qms (ok.sts st hm);simpa [q00] using this
    ·simp
   dsimp only;rw [z8t,zad]; omega
  ·simp
 ·dsimp only;unfold q76
  split
  ·rename_i st hg;have h1:=qms (ok.sts st (z9i hg));have h2:=qdz (s:=st.hs) (first:=r.nx) (items:=r.evs);have h3:(qai s r st).2.length=(st.hs.offer r.nx r.evs).2.1.length:=by unfold qai; exact qmr _
   dsimp only;rw [z8t,zad,h3]; omega
  ·simp
 ·dsimp only;unfold qfi;dsimp only;rw [qjr];unfold qkt;have h1:(q4o s.cm (q1o s.cfg.gd (s.ms.tick r.nw).1.value)).length≤(q0j s.cm).length:=by unfold q4o; exact (List.takeWhile_sublist _).length_le
  have h2:(q0j s.cm).length=s.cm.length:=by unfold q0j; rw [z9c,q7z]; simp [q00]
  have h3:=ok.sh.len;have h4:=ok.sh.m2;omega
structure RunR (s:Sta)(c:Cfg)(n:Nat):Prop where
 R:Rch s
 cfg:s.cfg=c
 kept:s.kept.length≤c.cells.toNat*n
theorem runR_new {c:Cfg}(h:qbk c):RunR (newS c) c 0:=⟨qwz h,rfl,by simp [newS]⟩
theorem RunR.step {s:Sta}{c:Cfg}{n:Nat}{r:Rp}(h:RunR s c n)(hv:∀e∈r.evs,wf64 e.value):RunR (q3h s r).1 c (n+1):=by
 have hg:=z43 (r:=r) h.R.ok;refine⟨q8z h.R hv,hg.1.trans h.cfg,?_⟩;have h1:=h.kept;have h2:=hg.2;rw [h.cfg] at h2;rw [Nat.mul_add,zah];exact z95 h2 (Nat.add_le_add_right h1 _)
theorem z8q {c:Cfg}{xs:List Rx}(hR:cfgR c=true)(hg:grR c xs=false):c.cells.toNat≤200:=by
 have h1:=(qjs hR);have h2:1≤c.cells∧c.cells≤1024:=by
  unfold cfgR at hR;simp only [z8w,z8u] at hR;exact hR.1.2
 unfold grR grC at hg;simp only [z94,za2,z8x] at hg;omega
theorem RunR.few {s:Sta}{c:Cfg}{n:Nat}(h:RunR s c n)(hc:c.cells.toNat≤200)(hn:n≤200):s.kept.length≤40000:=by
 have:=h.kept;have h2:c.cells.toNat*n≤200*200:=Nat.mul_le_mul hc hn;omega
theorem qpc {H0 H:Heap}{Q:Assn}{F:List Assn}(hs:Sub (old H0) Q)(h:SatL H (Q::F)):Grow H0 H:=(KG.old H0).sub hs H F h
open Go.Proofs.YtfmkddccnjidmaaGreatDoor
structure I3 where
 a:Int
 e:Int
 n:Int
deriving DecidableEq
structure I2 where
 a:Int
 e:Int
deriving DecidableEq
structure VG where
 v:List (I3 × Int)
 g:List (I2 × Int)
def VG.vv (x:VG)(k:I3):Int:=(q08 k x.v).getD 0
def VG.gg (x:VG)(k:I2):Int:=(q08 k x.g).getD 0
def ackOk (x:VG)(a e next:Int):Prop:=∀n:Int,0≤n→n < next→n < 10000→x.vv ⟨a,e,n⟩=1
inductive OneE:VG→Eff→VG→Prop
 | grant {x e}:e.kind=1→OneE x e { x with g:=mset ⟨e.agent,e.epoch⟩ (x.gg ⟨e.agent,e.epoch⟩+1) x.g }
 | verdict {x e}:e.kind=3→x.vv ⟨e.ida,e.ide,e.seq⟩=0→1≤x.gg ⟨e.ida,e.ide⟩→OneE x e { x with v:=mset ⟨e.ida,e.ide,e.seq⟩ 1 x.v }
 | ack {x e}:e.kind=2→ackOk x e.agent e.epoch e.next→OneE x e x
 | emit {x e}:e.kind=4→OneE x e x
inductive AllE:VG→List Eff→VG→Prop
 | nil {x}:AllE x [] x
 | snoc {x l y e z}:AllE x l y→OneE y e z→AllE x (l++[e]) z
theorem qzd {x:VG}{k k':I3}{v:Int}:({ x with v:=mset k v x.v }:VG).vv k'=if k'=k then v else x.vv k':=by
 unfold VG.vv;dsimp only;rw [q3k]
 split <;> rfl
theorem qmt {x:VG}{k k':I2}{v:Int}:({ x with g:=mset k v x.g }:VG).gg k'=if k'=k then v else x.gg k':=by
 unfold VG.gg;dsimp only;rw [q3k]
 split <;> rfl
structure qfq (s:Sta)(x:VG)(B:Int):Prop where
 cur:∀a st,q3a s a=some st→∀n,x.vv ⟨a,(rowE s.rows a).epoch,n⟩=if 0≤n∧n < st.hs.next then 1 else 0
 gr:∀a,0 < (rowE s.rows a).epoch→1≤x.gg ⟨a,(rowE s.rows a).epoch⟩
 new:∀a e n,(rowE s.rows a).epoch < e→x.vv ⟨a,e,n⟩=0
 b:∀k,0≤x.gg k∧x.gg k≤B
theorem qk9 {c:Cfg}{now a ep first:Int}{evs:List Pv}{j:JS}{x:VG}(hx:∀n,x.vv ⟨a,ep,n⟩=if 0≤n∧n < first then 1 else 0)(hf:0≤first)(hg:1≤x.gg ⟨a,ep⟩):∀n,∃y,AllE x (q16 c now a ep first evs j n).2 y∧
  y.g=x.g∧(∀m,y.vv ⟨a,ep,m⟩=if 0≤m∧m < first+n then 1 else 0)∧∀k,¬(k.a=a∧k.e=ep)→y.vv k=x.vv k
 | 0=>⟨x,.nil,rfl,by simpa using hx,fun _ _=>rfl⟩
 | n+1=>by
  obtain⟨y,h1,h2,h3,h4⟩:=qk9 (c:=c) (now:=now) (evs:=evs) (j:=j) hx hf hg n;refine⟨_,.snoc h1 (.verdict rfl ?_ ?_),h2,fun m=>?_,fun k hk=>?_⟩
  ·show y.vv ⟨a,ep,first+n⟩=0;rw [h3,if_neg (by omega)]
  ·show 1≤y.gg ⟨a,ep⟩;unfold VG.gg at hg ⊢;rw [h2]; exact hg
  ·rw [qzd];show (if (⟨a,ep,m⟩:I3)=⟨a,ep,first+n⟩ then (1:Int) else y.vv ⟨a,ep,m⟩)=_
   rw [h3]
   by_cases e:m=first+n
   ·rw [if_pos (by rw [e]),if_pos (by omega)]
   ·rw [if_neg (by simp [e])]
    by_cases e2:0≤m∧m < first+n
    ·rw [if_pos e2,if_pos (by omega)]
    ·rw [if_neg e2,if_neg (by omega)]
  ·rw [qzd,if_neg,h4 k hk];intro e;exact hk (by rw [e]; exact⟨rfl,rfl⟩)
theorem qmu {a ep:Int}{x:VG}(hg:1≤x.gg ⟨a,ep⟩):∀{ks:List Int},ks.Nodup→(∀n∈ks,x.vv ⟨a,ep,n⟩=0)→∃y,AllE x (ks.reverse.map (qgc a ep)).reverse.reverse y∧
  y.g=x.g∧(∀n,n∉ks→y.vv ⟨a,ep,n⟩=x.vv ⟨a,ep,n⟩)∧∀k,¬(k.a=a∧k.e=ep)→y.vv k=x.vv k
 | [],_,_=>⟨x,.nil,rfl,fun _ _=>rfl,fun _ _=>rfl⟩
 | n::r,hn,h=>by
  rw [zav] at hn;obtain⟨y,h1,h2,h3,h4⟩:=qmu hg hn.2 fun m hm=>h m (z99 _ hm)
  rw [List.reverse_reverse] at h1 ⊢;rw [List.reverse_cons,z9k];refine⟨_,.snoc h1 (.verdict rfl ?_ ?_),h2,fun m hm=>?_,fun k hk=>?_⟩
  ·show y.vv ⟨a,ep,n⟩=0;rw [h3 n hn.1];exact h n (z98 ..)
  ·show 1≤y.gg ⟨a,ep⟩;unfold VG.gg at hg ⊢;rw [h2]; exact hg
  ·simp only [z96,not_or] at hm;rw [qzd,if_neg (by show ¬(⟨a,ep,m⟩:I3)=⟨a,ep,n⟩; simp [hm.1]),h3 m hm.2]
  ·rw [qzd,if_neg,h4 k hk];intro e;exact hk (by rw [e]; exact⟨rfl,rfl⟩)
theorem qx0 {a ep:Int}{x:VG}(hg:1≤x.gg ⟨a,ep⟩){ks:List Int}(hn:ks.Nodup)(h:∀n∈ks,x.vv ⟨a,ep,n⟩=0):∃y,AllE x (ks.map (qgc a ep)) y∧
  y.g=x.g∧∀k,¬(k.a=a∧k.e=ep)→y.vv k=x.vv k:=by
 obtain⟨y,h1,h2,h3,h4⟩:=qmu (ks:=ks.reverse) hg (List.pairwise_reverse.2 (hn.imp fun h=>h.symm)) fun n hm=>h n (List.mem_reverse.1 hm)
 rw [List.reverse_reverse,List.reverse_reverse] at h1;exact⟨y,h1,h2,h4⟩
theorem qfq.same {s s':Sta}{x:VG}{B:Int}(I:qfq s x B)(hr:s'.rows=s.rows)(hs:∀a st',q3a s' a=some st'→∃st,q3a s a=some st∧st.hs.next=st'.hs.next):qfq s' x (B+1) where
 cur a st' h:=by
  obtain⟨st,h1,h2⟩:=hs a st' h;rw [hr,← h2]; exact I.cur a st h1
 gr a h:=by rw [hr] at h ⊢; exact I.gr a h
 new a e n h:=by rw [hr] at h; exact I.new a e n h
 b k:=by have:=I.b k; omega
theorem qka {s:Sta}{k:Nat}{st:Str}{now:Int}{ms:MS}{cm:CM}(hk:k < s.sts.length)(a:Int) :
  q3a { s with now:=now,ms:=ms,cm:=cm,sts:=s.sts.set k (some st) } a=if a=(k:Int) then some st else q3a s a:=by
 unfold q3a;dsimp only
 by_cases h0:a < 0
 ·rw [if_pos h0,if_pos h0,if_neg (by omega)]
 ·rw [if_neg h0,if_neg h0]
  by_cases e:a=(k:Int)
  ·rw [if_pos e];have:a.toNat=k:=by omega
   rw [this,List.getElem?_set_self hk]; rfl
  ·rw [if_neg e,List.getElem?_set_ne (by omega)]
theorem qfq.setStr {s:Sta}{x:VG}{B:Int}(I:qfq s x B){k:Nat}{st st':Str}{now:Int}{ms:MS}{cm:CM}(hk:s.sts[k]?=some (some st))(h:st'.hs.next=st.hs.next) :
  qfq { s with now:=now,ms:=ms,cm:=cm,sts:=s.sts.set k (some st') } x (B+1):=by
 have hlt:k < s.sts.length:=(List.getElem?_eq_some_iff.1 hk).1;refine I.same rfl fun a st2 h2=>?_
 rw [qka hlt] at h2
 split at h2
 ·rename_i e
  cases h2
  refine⟨st,?_,h.symm⟩;unfold q3a;rw [if_neg (by omega),e];show (s.sts[((k:Int)).toNat]?).join=_;rw [z8z,hk]; rfl
 ·exact⟨st2,h2,rfl⟩
theorem z8r {s:Sta}{r:Rp}{x:VG}{B:Int}(ok:q25 s)(I:qfq s x B):∃y,AllE x (effS s r) y∧qfq (qtf s r) y (B+1):=by
 unfold effS qtf;have triv:∀s':Sta,s'.rows=s.rows→s'.sts=s.sts→qfq s' x (B+1):=fun s' h1 h2=>I.same h1 fun a st' h=>⟨st',by unfold q3a at h ⊢; rw [← h2]; exact h,rfl⟩
 refine q8y (P:=fun q=>∃y,AllE x q.2.1 y∧qfq q.1 y (B+1)) (fun _=>⟨x,.nil,triv s rfl rfl⟩) (fun _ _=>⟨x,.nil,triv s rfl rfl⟩) (fun _ _ _=>⟨x,.nil,triv _ rfl rfl⟩) (fun hR hf hk=>?_) (fun hR hf hk=>?_) (fun hR hf hk=>?_) (fun hR hf hk=>?_) (fun _ _ _=>?_) fun hR hf hk=>?_
 ·
  have hL:=q1j hR;have hg:=qcn (most:=s.cfg.agents) ok.rows r.ag r.bt r.nw;unfold q7k
  split
  ·exact⟨x,.nil,triv s rfl rfl⟩
  rename_i hn;have hn:=Decidable.not_not.1 hn
  split
  ·rename_i hf
   rcases hg with ⟨-,g2,g3,g4,g5⟩|⟨g1,_⟩
   ·have hlt:r.ag.toNat < s.sts.length:=by rw [ok.len]; have:=hL.ag; omega
    have hltr:r.ag.toNat < s.rows.length:=by rw [ok.rows.len]; have:=hL.ag; omega
    have hag:((r.ag.toNat:Nat):Int)=r.ag:=by have:=hL.ag; omega
    generalize hG:(grant s.cfg.agents s.rows r.ag r.bt r.nw)=G at *;have first:∃y,AllE x (oldE s r.ag) y∧y.g=x.g∧∀k,¬(k.a=r.ag∧k.e=(rowE s.rows r.ag).epoch)→y.vv k=x.vv k:=by
     unfold oldE
     cases hs:q3a s r.ag with
     | none=>exact⟨x,.nil,rfl,fun _ _=>rfl⟩
     | some st=>
      have hst:=(qju hs).2;have hsok:=ok.sts st (z9i hst);have hreg:=(ok.reg r.ag.toNat).1 ⟨st,hst⟩;have hpos:0 < (rowE s.rows r.ag).epoch:=by
       obtain⟨e,h1,h2⟩:=hreg;unfold rowE;rw [if_neg (by have:=hL.ag; omega),h1]; exact h2
      refine qx0 (I.gr _ hpos) (qfx hsok.hs.rows.rising) fun n hm=>?_
      rw [I.cur _ _ hs,if_neg];obtain⟨p,hp,rfl⟩:=z90.1 hm;have:=(hsok.hs.rows.inb p hp).1;omega
    obtain⟨y,h1,h2,h3⟩:=first;refine⟨_,h1.snoc (.grant rfl),?_⟩;have hrow:∀a,rowE G.1 a=if a=r.ag then G.2.1 else rowE s.rows a:=by
     intro a;rw [g2]
     by_cases e:a=r.ag
     ·rw [if_pos e,e,qz4 hL.ag.1 hltr]
     ·rw [if_neg e];unfold rowE
      by_cases h0:a < 0
      ·rw [if_pos h0,if_pos h0]
      ·rw [if_neg h0,if_neg h0,List.getElem?_set_ne (by have:=hL.ag; omega)]
    refine⟨fun a st h n=>?_,fun a h=>?_,fun a e n h=>?_,fun k=>?_⟩
    ·dsimp only at h ⊢;rw [hrow];have h':q3a { s with now:=s.now,ms:=s.ms,cm:=s.cm,sts:=s.sts.set r.ag.toNat (some (q95 s.cfg)) } a=some st:=h;rw [qka hlt,hag] at h'
     by_cases e:a=r.ag
     ·rw [if_pos e] at h' ⊢
      cases h'
      show y.vv _=_;rw [h3 _ (by dsimp only; omega),e,I.new _ _ _ (by omega),if_neg (by show ¬(0≤n∧n < 0); omega)]
     ·rw [if_neg e] at h' ⊢;show y.vv _=_;rw [h3 _ (by dsimp only; omega)];exact I.cur a st h' n
    ·dsimp only at h ⊢;rw [qmt];rw [hrow] at h ⊢
     by_cases e:a=r.ag
     ·rw [if_pos e,if_pos (by rw [e])];have:0≤y.gg ⟨r.ag,G.2.1.epoch⟩:=by unfold VG.gg; rw [h2]; exact (I.b _).1
      omega
     ·rw [if_neg e] at h ⊢;rw [if_neg (by intro hh; exact e (congrArg I2.a hh))];unfold VG.gg; rw [h2]; exact I.gr a h
    ·dsimp only at h ⊢;rw [hrow] at h;show y.vv _=_
     by_cases he:a=r.ag
     ·rw [if_pos he] at h;rw [h3 _ (by dsimp only; omega),he];exact I.new _ _ _ (by omega)
     ·rw [if_neg he] at h;rw [h3 _ (by dsimp only; omega)];exact I.new _ _ _ h
    ·rw [qmt];have hb:∀k,y.gg k=x.gg k:=fun k=>by unfold VG.gg; rw [h2]
     rw [hb,hb];have h5:=I.b k;have h6:=I.b ⟨r.ag,G.2.1.epoch⟩
     split
     ·dsimp only; omega
     ·omega
   ·rw [g1] at hf; cases hf
  ·rename_i hf
   rcases hg with ⟨g1,_⟩|⟨-,g2,g3⟩
   ·exact absurd g1 hf
   ·obtain⟨g4,g5⟩:=g3 hn;rw [g2];refine⟨_,AllE.snoc (l:=[]) .nil (.grant rfl),?_⟩;refine⟨fun a st h n=>I.cur a st h n,fun a h=>?_,fun a e n h=>I.new a e n h,fun k=>?_⟩
    ·rw [qmt];have h6:=I.gr a h;have h7:=(I.b ⟨r.ag,(grant s.cfg.agents s.rows r.ag r.bt r.nw).2.1.epoch⟩).1
     split
     ·dsimp only; omega
     ·exact h6
    ·rw [qmt];have h5:=I.b k;have h6:=I.b ⟨r.ag,(grant s.cfg.agents s.rows r.ag r.bt r.nw).2.1.epoch⟩
     split
     ·dsimp only; omega
     ·omega
 ·have hL:=q1j hR;obtain⟨st,hst⟩:=q27 ok hL hf (.inl hk);unfold qcm;rw [hst];exact⟨x,.nil,I.setStr hst rfl⟩
 ·
  have hL:=q1j hR;obtain⟨st,hst⟩:=q27 ok hL hf (.inr (.inl hk));have hsok:=ok.sts st (z9i hst);have hag:((r.ag.toNat:Nat):Int)=r.ag:=by have:=hL.ag; omega
  have hlt:r.ag.toNat < s.sts.length:=(List.getElem?_eq_some_iff.1 hst).1;have hat:q3a s r.ag=some st:=by unfold q3a; rw [if_neg (by have:=hL.ag; omega),hst]; rfl
  have hep:(rowE s.rows r.ag).epoch=r.ep∧0 < (rowE s.rows r.ag).epoch:=by
   unfold q1y at hf;rw [if_neg (by omega),if_neg (by omega)] at hf;unfold qfj at hf
   split at hf
   ·simp at hf
   ·rename_i hh;have he:=hL.ep.1 (.inr (.inl hk));have:isE s r.ag r.ep=true:=by
     cases e:isE s r.ag r.ep
     ·exact absurd ⟨by omega,e⟩ hh
     ·rfl
    unfold isE at this;rw [z8w] at this;exact⟨z8s this.2,z8s this.1⟩
  unfold q76;rw [hst];dsimp only;have hnext:(st.hs.offer r.nx r.evs).1.next=st.hs.next+((st.hs.offer r.nx r.evs).2.1.length:Nat)∧0≤st.hs.next:=by
   refine⟨?_,hsok.hs.next0⟩;unfold HS.offer
   split
   ·simp
   ·have h1:=qi7 (vs:=r.evs) (n:=r.nx) (s:=(st.hs.rows,0)) (hsok.hs.rows.weaken (lo':=st.hs.next) (by omega) (z9g _));exact (qgz h1.rising fun p hp=>(h1.inb p hp).1).2.1
  have hj:(qai s r st).1.st.hs=(st.hs.offer r.nx r.evs).1:=by
   unfold qai;generalize (st.hs.offer r.nx r.evs)=O;have:∀n,(q16 s.cfg r.nw r.ag r.ep st.hs.next O.2.1 ⟨{ st with hs:=O.1 },s.ms,s.cm⟩ n).1.st.hs=O.1:=by
    intro n
    induction n with
    | zero=>rfl
    | succ n ih=>exact (qjp s.cfg r.nw r.ag (q16 s.cfg r.nw r.ag r.ep st.hs.next O.2.1 ⟨{ st with hs:=O.1 },s.ms,s.cm⟩ n).1.st (q16 s.cfg r.nw r.ag r.ep st.hs.next O.2.1 ⟨{ st with hs:=O.1 },s.ms,s.cm⟩ n).1.ms (q16 s.cfg r.nw r.ag r.ep st.hs.next O.2.1 ⟨{ st with hs:=O.1 },s.ms,s.cm⟩ n).1.cm (O.2.1.getD n Pv.z)).2.1.trans ih
   exact this _
  have hcur:=I.cur _ _ hat
  rw [hep.1] at hcur;have hgr:=I.gr _ hep.2;rw [hep.1] at hgr;obtain⟨y,h1,h2,h3,h4⟩:=qk9 (c:=s.cfg) (now:=r.nw) (evs:=(st.hs.offer r.nx r.evs).2.1) (j:=⟨{ st with hs:=(st.hs.offer r.nx r.evs).1 },s.ms,s.cm⟩) hcur hnext.2 hgr (st.hs.offer r.nx r.evs).2.1.length;refine⟨y,h1.snoc (.ack rfl ?_),?_⟩
  ·intro n n0 n1 n2;dsimp only at n1 ⊢;rw [h3,if_pos (by rw [← hnext.1]; exact⟨n0,n1⟩)]
  ·refine⟨fun a st2 h n=>?_,fun a h=>?_,fun a e n h=>?_,fun k=>?_⟩
   ·rw [qka hlt,hag] at h;dsimp only
    by_cases e:a=r.ag
    ·rw [if_pos e] at h
     cases h
     rw [e,hep.1,h3,hj,hnext.1]
    ·rw [if_neg e] at h;rw [h4 _ (by dsimp only; omega)];exact I.cur a st2 h n
   ·unfold VG.gg; rw [h2]; exact I.gr a h
   ·dsimp only at h;rw [h4 _ (by
     dsimp only;rintro⟨rfl,rfl⟩;omega)]
    exact I.new a e n h
   ·have:=I.b k;unfold VG.gg at this ⊢;rw [h2]; omega
 ·have hL:=q1j hR;obtain⟨st,hst⟩:=q27 ok hL hf (.inr (.inr hk));unfold qsl;rw [hst];dsimp only
  split
  ·exact⟨x,.nil,triv _ rfl rfl⟩
  split
  ·exact⟨x,.nil,triv _ rfl rfl⟩
  ·exact⟨x,.nil,I.setStr hst rfl⟩
 ·refine⟨x,?_,triv _ rfl rfl⟩;show AllE x (qgu s.next (qkt s r.nw) (qkt s r.nw).length) x;have:∀n,AllE x (qgu s.next (qkt s r.nw) n) x:=fun n=>by
   induction n with
   | zero=>exact .nil
   | succ n ih=>exact ih.snoc (.emit rfl)
  exact this _
 ·refine⟨x,.nil,?_⟩;unfold qwi
  split
  ·exact triv _ rfl rfl
  ·exact triv s rfl rfl
theorem once_new (c:Cfg):qfq (newS c) ⟨[],[]⟩ 0 where
 cur a st h:=by
  unfold q3a newS at h;dsimp only at h
  split at h
  ·cases h
  ·rw [List.getElem?_replicate] at h
   split at h <;> simp at h
 gr a h:=by
  exfalso;unfold rowE newS at h;dsimp only at h
  split at h
  ·simp [En.z] at h
  ·rw [List.getElem?_replicate] at h
   split at h <;> simp [En.z] at h
 new a e n h:=rfl
 b k:=⟨z9g _,z9g _⟩
end Go.Nm
