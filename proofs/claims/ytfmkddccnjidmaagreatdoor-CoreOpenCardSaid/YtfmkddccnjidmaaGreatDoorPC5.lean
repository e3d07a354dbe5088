/-
  Lemmas for CoreOpen: part 5 of what it rests on. Conditions: none.
-/
import Derived.Test.YtfmkddccnjidmaaGreatDoorPC4
set_option linter.unusedVariables false
set_option linter.unusedSimpArgs false
set_option maxRecDepth 100000
open Go.IntKind (i64 u64 i8 u8 i32 u32 i16 u16)
namespace Go.Nm
theorem qgz.run {s:Sta}{c:Cfg}{n:Nat}{B:Int}(h:RunR s c n)(I:qgz s B):∀{rs:List Rp},(∀r∈rs,∀e∈r.evs,wf64 e.value)→qgz (runS s rs) (B+256*rs.length):=by
 intro rs
 induction rs generalizing s n B with
 | nil=>intro _; show qgz s (B+256*((0:Nat):Int)); simpa using I
 | cons r rs ih=>
  intro hv;have:=ih (h.step (r:=r) (hv r (z95 ..))) (z8j h.R.ok I) fun x hx=>hv x (z96 _ hx)
  rw [z8w,show B+256*((rs.length+1:Nat):Int)=B+256+256*(rs.length:Int) by omega];exact this
theorem z40 {s:Sta}{B:Int}{a:Int}(ok:q1v s)(I:qgz s B)(ha:0≤a∧a < 64)(he:0 < (rowE s.rows a).epoch) :
  (q7n s a).2=true∧(q7n s a).1.fl.t≤s.now∧(q7n s a).1.smps≤8∧(q7n s a).1.wait < s.cfg.hold∧1≤(q7n s a).1.en.epoch∧(q7n s a).1.en.time≤s.now:=by
 have hst:∃st:Str,s.sts[a.toNat]?=some (some st):=by
  refine (ok.reg a.toNat).2 ?_;unfold rowE at he;rw [if_neg (by omega)] at he
  cases hq:s.rows[a.toNat]? with
  | none=>rw [hq] at he; exact absurd he (by decide)
  | some e=>rw [hq] at he; exact⟨e,rfl,he⟩
 obtain⟨st,hst⟩:=hst;have hs:=q8a ha.1 hst;have hok:=ok.sts st (z9k hst);unfold q7n;rw [if_pos he,hs];dsimp only;refine⟨rfl,?_,?_,?_,by omega,I.en a⟩
 ·unfold flOf
  cases hm:q09 a s.ms.m with
  | none=>have:=ok.now; show (0:Int)≤_; unfold isT at this; omega
  | some x=>exact I.fl (a,x) (q0b hm)
 ·have:=hok.ck.len; omega
 ·have h1:=hok.hs.rows.length;have h2:=hok.most;have h3:=hok.hs.most1;omega
theorem z42 {s:Sta}{a:Int}(he:¬0 < (rowE s.rows a).epoch):(q7n s a).2=false:=by
 unfold q7n;rw [if_neg he]
end Go.Nm
namespace Go.Proofs.YtfmkddccnjidmaaGreatDoor
open Go.Nm
section
variable {H0:Heap} {cf:Cfg} {ba:Option Addr} {bc:Nat} {xs:List Rx} {x:Rx}
set_option maxHeartbeats 4000000 in
theorem CoreOpen_true (hlen:xs.length≤maxLen)(hr:rdS H0 ba (flat encX xs))(hxs:∀x∈xs,RxH H0 x):CF 5 #[.agg ⟨qgx cf⟩,.slice ba xs.length bc] H0 fun v H'=>v=.bool true∧Grow H0 H':=by
 have hK0:=xsK_old hlen hr hxs;refine z1a ?_;refine (sat0 H0).al fun b _ h=>?_
 refine h.al fun b1 _ h=>?_
 refine z3y (h.o [2,0,1] 3) fun Q1 H1 hs1 h=>⟨_,rfl,fun hc=>by simp at hc,fun _=>?_⟩
 have hK1:=hK0.sub hs1;refine⟨_,_,_,_,_,_,_,_,_,h.q 2,?_⟩;refine z3m (cf:=cf) (xs:=xs) h hK1 fun H2 h=>⟨_,rfl,fun hg=>?_,fun hg=>⟨_,_,_,_,_,_,_,_,_,h.q 2,?_⟩⟩
 ·refine h.st 1 rfl rfl ?_;intro H3 h;exact⟨_,h.r 1,rfl,qpe hs1 h⟩
 refine z7y (cf:=cf) (xs:=xs) h hK1 hg (fun hc H4 h=>⟨_,rfl,?_⟩) fun hc Q4 sb H4 hs4 h=>⟨_,rfl,?_⟩
 ·refine h.al fun b2 _ h=>?_
  refine h.st 0 rfl rfl ?_;intro H5 h;refine⟨_,h.r 3,_,h.r 3,_,h.r 3,?_⟩;refine qdx (g:=cf.gd) h fun H6 h=>⟨_,_,_,_,rfl,?_⟩
  refine h.al fun b3 _ h=>?_
  refine h.st 0 rfl rfl ?_;intro H7 h;refine⟨_,h.r 1,fun _=>⟨_,_,_,_,_,_,_,_,_,h.q 4,?_⟩,fun hf=>absurd hf (by simp)⟩
  refine q8y (c:=cf) h fun H8 h=>⟨_,rfl,?_⟩
  rw [hc];refine h.st 3 rfl rfl ?_;intro H9 h;exact⟨_,h.r 3,rfl,qpe hs1 (h.o [2] 5)⟩
 have hn:=(grR_of hg).1;have hgok:=(qao hc).gd;have hvs:∀r∈xs.map Rx.p,∀e∈r.evs,wf64 e.value:=fun r hr=>by
  obtain⟨y,hy,rfl⟩:=z8y.1 hr;exact (hxs y hy).k.vals
 have S:=(qzd (qao hc)).run hvs;have I:=(qz5 (qao hc)).run (qzd (qao hc)) hvs;rw [z9c] at S I;generalize runS (newS cf) (xs.map Rx.p)=s at h S I;have ok:=S.R.ok;have hcf:=S.cfg;refine h.al fun b2 _ h=>?_
 refine h.st 0 rfl rfl ?_;intro H5 h;refine⟨_,h.r 4,_,h.r 4,_,h.r 4,?_⟩;refine qdx (g:=cf.gd) h fun H6 h=>?_
 rw [if_pos hgok,if_pos hgok];refine⟨_,_,_,_,rfl,?_⟩;refine h.al fun b3 _ h=>?_
 refine h.st 0 rfl rfl ?_;intro H7 h;refine⟨_,h.r 1,fun hf=>absurd hf (by simp),fun _=>?_⟩
 refine h.al fun b4 _ h=>?_
 refine h.st 0 rfl rfl ?_;intro H8 h;refine⟨_,h.r 2,?_⟩;refine qk1 (h.o [4,0,1,2,3,5,6] 7) fun hb c0 H16 hp=>⟨_,_,rfl,rfl,fun R hR1 hR2 hy=>?_⟩
 obtain⟨p,rfl,h⟩:=hp;have h:=h.rng R;have hcl:=ok.sh.len;have hc2:=ok.sh.m2;have hol:(q0g s.cm).length=s.cm.length:=q6v _;refine q8q (sb:=p.hb) (mb:=p.hm) (most:=s.cfg.cells) (m:=s.cm) (c0:=c0) (by omega)
  (fun j=>star [stA Q4 sb s,cellsA b4 [I64 (j:Nat)] 3,cellsA b3 [I64 cf.width,I64 cf.policy,I64 cf.most] 70,cellsA b2 [PA sb 0] 27,pt (H16.size+1) (.loop R)]) (fun _=>pur False)
  (star [cellsA sb (q3b s p) 115,Ro.rollC p.rb p.rm s.cfg.agents,Ro.mapE p.rm s.rows,Ma.markC p.mb p.mm s.ms,Ma.mapF p.mm s.ms.m,strmA Q4 p.tm s.sts,slA 64 74 p.ka s.kept.length p.kc (flat encO s.kept),cellsA b4 [I64 0] 3,cellsA b3 [I64 cf.width,I64 cf.policy,I64 cf.most] 70,cellsA b2 [PA sb 0] 27,pt (H16.size+1) (.loop R)])
  (F:=[pt H16.size (.deferred (some [])),Q4,cellsA b1 [.bool false] 4,cellsA b (qgx cf) 23]) ?_ ?_ ?_ ?_ ?_
 ·have h:=h.o [3,4,5,6,7,10,11,12,13,14,0,2,8,9,1,15,16,17] 18;have h:=SatL.shut [_,_,_,_,_,_,_,_,_,_,_] h;exact h.o [1,2,3,0] 4
 ·intro G H17 h;have h:=h.o [2,0,1] 3;have h:=SatL.open (A:=[_,_,_,_,_,_,_,_,_,_,_]) h;have h:=h.o [0,1,2,3,4,11,12,5,6,7,8,9,10] 13;have h:SatL H17 (stA Q4 sb s::_):=q0h.2 ⟨p,h⟩;exact SatL.shut [_,_,_,_,_] h
 ·intro j hj G H17 K1 h kt _;have h:=SatL.open (A:=[_,_,_,_,_]) h;refine hy _ _ _ ?_;have hmem:=z90 hj;have hwc:=qei ok.sh _ hmem;have hm:=qkc hmem;have hwin:=I.cel.win _ hm;have hcnt:=I.cel.cnt _ hm;have hrt:=ok.sh.rt _ hm;have hgd:s.cfg.gd=cf.gd:=by rw [hcf]
  rw [hgd] at hwin;generalize (q0g s.cm)[j]=o at *;refine⟨_,_,_,_,_,_,_,_,_,_,rfl,h.getO 4 rfl,?_⟩;refine h.al fun b5 _ h=>?_
  refine h.st 0 rfl rfl ?_;intro H19 h;refine h.al fun b6 _ h=>?_
  refine h.sta 0 rfl rfl fun H20 h=>?_
  refine⟨h.getO 6 rfl,h.stl 6 rfl fun H22 h=>?_⟩
  intro Jn hJ;refine⟨_,h.r 1,_,_,_,h.q 4,_,h.r 5,_,qcq (h.o [2] 7),?_⟩;refine q54 (g:=cf.gd) h fun H26 h=>⟨_,rfl,h.r 1,_,fun _=>h.r 1,_,_,_,fun _=>h.q 4,_,fun _=>h.r 5,_,fun _=>qaq (h.o [2] 7),fun _=>?_,fun hf=>absurd (za2 (by omega)) hf⟩
  refine q54 (g:=cf.gd) h fun H27 h=>⟨_,rfl,fun _=>h.r 1,_,_,_,_,_,_,_,_,fun _=>h.rda 0 rfl,fun _=>?_,fun hf=>absurd (za2 (by omega)) hf⟩
  refine q56 (c:=o.2) hwc h fun H28 h=>⟨_,rfl,_,fun _=>h.r 0,_,fun _=>h.r 0,hJ _ _ ?_⟩
  rw [hrt,w64,za2 (by omega:¬o.2.cer+o.2.pos < 1)];refine⟨fun hf=>absurd hf (by simp),fun _=>⟨_,h.r 3,?_⟩⟩
  dsimp only;rw [w64];refine h.st 3 rfl rfl ?_;intro H29 h;refine⟨h.getO 6 rfl,kt _ ?_⟩;have h:=h.setO 6 rfl (.loop R);exact SatL.shut [_,_,_,_,_] (h.o [2,3,4,5,6] 7)
 ·intro H17 h;have h:=SatL.open (A:=[_,_,_,_,_]) h;refine⟨.ready,none,by decide,by rw [q5i hR1 hR2]; exact h.getO 4 rfl,h.stl 4 rfl fun H18 h=>.inl ⟨rfl,?_⟩⟩
  refine⟨fun kn a H'=>∃n:Nat,a=n∧n≤64∧kn=((s.rows.take n).countP fun e=>decide (0 < e.epoch):Nat)∧
   SatL H' [stA Q4 sb s,cellsA b4 [I64 ((q0g s.cm).length:Nat)] 3,cellsA b3 [I64 cf.width,I64 cf.policy,I64 cf.most] 70,cellsA b2 [PA sb 0] 27,pt (H16.size+1) (.loop { R with state:=.exhausted,pending:=none }),pt H16.size (.deferred (some [])),Q4,cellsA b1 [.bool false] 4,cellsA b (qgx cf) 23],
   fun _ a _=>64 - a.toNat,⟨0,rfl,by omega,by simp,h⟩,?_⟩
  rintro kn a H19 ⟨n,rfl,hn64,rfl,h⟩;have hcle:(s.rows.take n).countP (fun e=>decide (0 < e.epoch))≤n:=by
   have:=List.countP_le_length (l:=s.rows.take n) (p:=fun e=>decide (0 < e.epoch))
   rw [z9b] at this; omega
  refine⟨fun hc3=>?_,fun hc3=>?_⟩
  ·have hlt:n < 64:=by have:=z8q hc3; omega
   intro Jn1 hJ1;refine⟨_,h.r 3,?_⟩;refine qjy (a:=(n:Int)) ok h fun H20 h=>⟨_,_,_,_,_,_,_,_,_,_,_,_,rfl,?_⟩
   refine h.al fun b7 _ h=>?_
   refine h.st 0 rfl rfl ?_;intro H21 h;have hrn:s.rows.length=64:=ok.rows.len;have hct:(s.rows.take (n+1)).countP (fun e=>decide (0 < e.epoch))=(s.rows.take n).countP (fun e=>decide (0 < e.epoch))+if 0 < (rowE s.rows n).epoch then 1 else 0:=by
    have hr1:rowE s.rows (n:Int)=s.rows[n]:=by unfold rowE; rw [if_neg (by omega),z8x,List.getElem?_eq_getElem (by omega)]; rfl
    rw [z9x (by omega),List.countP_append,hr1];simp [zbc]
   by_cases he:0 < (rowE s.rows n).epoch
   ·obtain⟨g1,g2,g3,g4,g5,g6⟩:=z40 ok I ⟨by omega,by omega⟩ he;rw [if_pos he] at hct;rw [g1];generalize (q7n s (n:Int)).1=A at *;rw [hcf] at g4;refine⟨fun hf=>absurd hf (by simp),fun _=>⟨_,h.r 0,_,h.r 4,_,qaq (h.o [1] 10),_,fun _=>h.r 0,_,fun _=>h.r 0,_,fun _=>h.r 9,_,fun _=>h.r 0,_,fun _=>h.r 0,_,fun _=>h.r 4,_,fun _=>qaq (h.o [1] 10),fun hf=>?_,fun _=>?_⟩⟩
    ·exfalso;simp only [z94,z8s] at hf;omega
    ·refine hJ1 _ _ ?_;rw [w64,w64];exact⟨⟨n+1,by omega,hlt,by rw [hct]; omega,h.tl⟩,by dsimp only; omega⟩
   ·have g1:=z42 he;rw [if_neg he] at hct;rw [g1];refine⟨fun _=>hJ1 _ _ ?_,fun hf=>absurd hf (by simp)⟩
    rw [w64];exact⟨⟨n+1,by omega,hlt,by rw [hct]; rfl,h.tl⟩,by dsimp only; omega⟩
  ·obtain rfl:n=64:=by have:=z8t hc3; omega
   have hag:=I.ag;rw [z9d (by rw [show s.rows.length=64 from ok.rows.len]; omega)];rw [hcf] at hag hcl;refine⟨_,h.r 1,_,h.r 8,_,fun _=>h.r 8,_,fun _=>h.r 3,_,fun _=>qcq h,_,fun _=>h.r 3,_,fun _=>qaq h,?_⟩
   have hval:=I.val;dsimp only;rw [z9a (show ((q0g s.cm).length:Int)≤cf.cells by omega),z9a hag,z9a hval];refine h.st 7 rfl rfl ?_;intro H20 h;refine⟨h.getO 5 rfl,?_⟩;have h:=h.setO 5 rfl (.deferred none);exact⟨_,h.r 7,rfl,qpe (hs1.trans hs4) (h.o [6] 9)⟩
 ·intro j H17 hj h;exact h.consP.1.elim
end
end Go.Proofs.YtfmkddccnjidmaaGreatDoor
