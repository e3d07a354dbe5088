/-
  Lemmas for CoreTwice: part 5 of what it rests on. Conditions: none.
-/
import Derived.Test.YtfmkddccnjidmaaGreatDoorPA4
set_option linter.unusedVariables false
set_option linter.unusedSimpArgs false
set_option maxRecDepth 100000
open Go.IntKind (i64 u64 i8 u8 i32 u32 i16 u16)
namespace Go.Proofs.YtfmkddccnjidmaaGreatDoor
open Go.Nm
open Go.Nm
section
variable {H0:Heap} {cf:Cfg} {ba:Option Addr} {bc:Nat} {xs:List Rx} {x:Rx}
set_option maxHeartbeats 4000000 in
theorem CoreTwice_true (hlen:xs.length≤maxLen)(hr:rdS H0 ba (flat encX xs))(hxs:∀x∈xs,RxH H0 x)(hx:RxH H0 x):CF 6 #[.agg ⟨qks cf⟩,.slice ba xs.length bc,.agg ⟨encX x⟩] H0 fun v H'=>v=.bool true∧Grow H0 H':=by
 have hK0:=xsK_old hlen hr hxs;refine qvo ?_;refine (sat0 H0).al fun b _ h=>?_
 refine h.al fun b1 _ h=>?_
 refine z4i (h.o [2,0,1] 3) fun Q1 H1 hs1 h=>⟨_,rfl,fun hc=>by simp at hc,fun _=>?_⟩
 intro Jn hJ;have hK1:=hK0.sub hs1;refine⟨_,_,_,_,_,_,_,_,_,h.q 2,?_⟩;refine qmh (cf:=cf) (xs:=xs) h hK1 fun H2 h=>⟨_,rfl,_,_,_,_,_,_,_,_,_,fun _=>h.q 2,_,_,_,_,_,_,_,_,_,_,_,_,_,_,fun _=>h.q 1,fun hg=>?_,fun hg=>?_⟩
 ·refine h.al fun b7 _ h=>?_
  have h7:=q1f.2 h;refine qmh (cf:=cf) (xs:=[x]) h7 (xsK_one (hx.k.sub hs1)) fun H3 h=>⟨_,rfl,_,fun _=>h.r 1,_,fun _=>h.r 1,_,fun _=>h.r 1,hJ _ _ ?_⟩
  have hs7:=hs1.trans (Sub.add (cellsA b7 (encX x) 46) Q1);generalize (cellsA b7 (encX x) 46*Q1)=Q7 at h hs7;have hK7:=hK0.sub hs7;refine⟨fun _=>⟨rfl,qbl hs7 h⟩,fun ht=>?_⟩
  rw [z9g] at ht;have hE:grE x.evs=false:=(z8a ht.1).2 x (by simp);have hkd:x.kind=4∨x.kind=2∨x.kind=6:=by
   have:=ht.2;simp only [zae,za4,z97] at this
   rcases this with (h1|h1)|h1
   ·exact .inl h1
   ·exact .inr (.inl h1)
   ·exact .inr (.inr h1)
  refine⟨_,_,_,_,_,_,_,_,_,h.q 2,?_⟩;refine z8d (cf:=cf) (xs:=xs) h hK7 hg (fun hc H4 h=>⟨_,rfl,fun _=>⟨_,_,_,_,_,_,_,_,_,h.q 2,?_⟩,fun hf=>absurd hf (by simp)⟩) fun hc Q4 sb H4 hs4 h=>⟨_,rfl,fun hf=>absurd hf (by simp),fun _=>?_⟩
  ·refine q92 (c:=cf) h fun H5 h=>⟨_,rfl,?_⟩
   rw [hc];exact⟨rfl,qbl hs7 h⟩
  have hcl:=z94 hc hg;have hn:=(z8a hg).1;have hv:∀e∈x.p.evs,wf64 e.value:=hx.k.vals;have hlx:x.p.evs.length≤100:=by show (x.evs.map Ev.p).length≤100; rw [z9o]; exact (grE_of hE).1
  have S1:RunR (runS (newS cf) (xs.map Rx.p)) cf (0+(xs.map Rx.p).length):=(runR_new (qft hc)).run fun r hr=>by
   obtain⟨y,hy,rfl⟩:=z9d.1 hr;exact (hxs y hy).k.vals
  rw [z9o] at S1;generalize runS (newS cf) (xs.map Rx.p)=s at h S1;have S2:RunR (q2i s x.p) cf (0+xs.length+1):=S1.step hv;have S3:RunR (q2i (q2i s x.p) x.p) cf (0+xs.length+1+1):=S2.step hv;have k1:=S1.few hcl (by omega);have k2:=S2.few hcl (by omega);have k3:=S3.few hcl (by omega);refine⟨_,_,_,_,_,_,_,_,_,_,_,_,_,_,h.q 2,?_⟩;have sz4:=hs7.trans hs4;refine qp8 (x:=x) h (hx.k.sub sz4) hE fun Q5 a5 c5 evs5 H5 hs5 hrec h=>⟨_,_,_,_,_,_,_,_,_,_,_,_,_,_,rfl,?_⟩
  have h:=qjr hs5 (h.o [2,0,1] 3);have h:=h.o [1,0,2] 3;have ba1:=S1.R.sunk;refine qbh S1.R.ok (by omega) (by omega) (hrec _) h fun Q6 a6 c6 H6 hs6 h=>⟨_,_,_,_,rfl,fun hne=>?_,fun heq=>?_⟩
  ·have he:(q0h s x.p).2.2≠0:=by simpa using hne
   rw [z8w he];exact⟨rfl,qbl (sz4.trans (hs5.trans hs6)) h⟩
  have he:(q0h s x.p).2.2=0:=by simpa using heq
  have sz6:=sz4.trans (hs5.trans hs6);have h:=h.o [0,2,1,3,4,5] 6;refine q7c S2.R.ok S2.R.ser (by omega) h fun a8 c8 H8 h=>⟨_,_,_,rfl,_,_,_,_,_,_,_,_,_,_,_,_,_,_,h.q 5,?_⟩
  refine qp8 (x:=x) (h.o [1,0,2,3,4,5,6] 7) (hx.k.sub sz6) hE fun Q9 a9 c9 evs9 H9 hs9 hrec9 h=>⟨_,_,_,_,_,_,_,_,_,_,_,_,_,_,rfl,?_⟩
  have h:=qjr hs9 (h.o [3,0,1,2,4,5,6,7] 8);have h:=h.o [1,0,2,3,4,5,6,7] 8;have ba2:=S2.R.sunk;refine qbh S2.R.ok (by omega) (by omega) (hrec9 _) h fun Q10 a10 c10 H10 hs10 h=>⟨_,_,_,_,rfl,?_⟩
  have sz10:=sz6.trans (hs9.trans hs10);refine⟨_,h.r 7,fun hk6=>?_,fun hk6=>?_⟩
  ·have hk:x.p.kind=6:=by have:=z96 hk6; exact this
   have tw:=z49 hk he;intro Jn1 hJ1;rw [tw];refine⟨fun _=>?_,fun hf=>absurd (by simp) hf⟩
   rw [tw] at h;dsimp only at h;refine q7c S2.R.ok S2.R.ser (by omega) (h.o [0,2,1,3,4,5,6,7,8] 9) fun a12 c12 H12 h=>⟨_,_,_,rfl,?_⟩
   refine⟨_,qc5 (h.sl_rd 0 rfl) (h.sl_rd 5 rfl) (by have:=qxe S2.R.ok S2.R.ser (by omega); omega),hJ1 _ _ ?_⟩;exact⟨by simp,qbl sz10 (h.o [1,0] 2)⟩
  ·have hk:¬x.kind=6:=z98 hk6;intro Jn2 hJ2;have hl1:0 < (q0h s x.p).2.1.length:=by
    rcases hkd with hk4|hk2|hk6'
    ·obtain⟨l,l',e,e',t1,t2,t3,t4,t5⟩:=qd1 S1.R.ok hv (show x.p.kind=4 from hk4) he;show 0 < (effS s x.p).length;rw [t1]; simp
    ·obtain⟨l,e,t1,t2⟩:=qd0 S1.R.ok (show x.p.kind=2 from hk2) he;show 0 < (effS s x.p).length;rw [t1]; simp
    ·exact absurd hk6' hk
   have hl2:0 < (q0h (q2i s x.p) x.p).2.1.length∧(q0h (q2i s x.p) x.p).2.2=0:=by
    rcases hkd with hk4|hk2|hk6'
    ·obtain⟨l,l',e,e',t1,t2,t3,t4,t5⟩:=qd1 S1.R.ok hv (show x.p.kind=4 from hk4) he;rw [t2]; exact⟨by simp,t3⟩
    ·obtain⟨l,e,t1,t2⟩:=qd0 S1.R.ok (show x.p.kind=2 from hk2) he;rw [t2]; exact⟨by simp,rfl⟩
    ·exact absurd hk6' hk
   refine⟨fun _=>?_,fun hf=>absurd (by rw [show (q0h (q0h s x.p).1 x.p).2.2=0 from hl2.2,zaf (show ¬((q0h (q0h s x.p).1 x.p).2.1.length:Int)=0 by have:=hl2.1; simp only [q2i] at this; omega),zaf (show ¬((q0h s x.p).2.1.length:Int)=0 by omega)]; rfl) hf⟩
   refine q7c S3.R.ok S3.R.ser (by omega) (h.o [0,2,1,3,4,5,6,7,8] 9) fun a12 c12 H12 h=>⟨_,_,_,rfl,?_⟩
   refine⟨_,qc5 (h.sl_rd 0 rfl) (h.sl_rd 5 rfl) (by have:=qxe S3.R.ok S3.R.ser (by omega); omega),_,fun _=>h.r 8,hJ2 _ _ ?_⟩
   have hg2:∀{l:List Eff} {e:Eff},(l++[e])[l.length]'(by simp)=e:=fun {l e}=>by simp
   have r1:=h.sl_rd 3 rfl;have r2:=h.sl_rd 6 rfl;have gr:=qbl sz10 (h.o [1,0] 2);have hlt1:(q0h s x.p).2.1.length≤2000:=qtw S1.R.ok hlx;have hlt2:(q0h (q2i s x.p) x.p).2.1.length≤2000:=qtw S2.R.ok hlx
   rcases hkd with hk4|hk2|hk6'
   ·obtain⟨l,l',e,e',t1,t2,t3,t4,t5⟩:=qd1 S1.R.ok hv (show x.p.kind=4 from hk4) he;refine⟨fun hf=>?_,fun _=>⟨_,h.r 8,fun hf=>?_,fun _=>?_⟩⟩
    ·rw [z99,z97] at hf; omega
    ·rw [z97] at hf; omega
    have t1':(q0h s x.p).2.1=l++[e]:=t1;have t2':(q0h (q0h s x.p).1 x.p).2.1=l'++[e']:=t2;rw [t1'] at r2 hlt1 ⊢;rw [t2'] at r1 ⊢;rw [show (q0h (q2i s x.p) x.p).2.1=l'++[e'] from t2] at hlt2;rw [z95,za9] at hlt1 hlt2;have i1:i64.wrap (((l++[e]).length:Nat) - 1:Int)=(l.length:Nat):=by rw [z95,za9,w64]; omega
    have i2:i64.wrap (((l'++[e']).length:Nat) - 1:Int)=(l'.length:Nat):=by rw [z95,za9,w64]; omega
    have b1':l.length < (l++[e]).length:=by simp
    have b2':l'.length < (l'++[e']).length:=by simp
    have q0:=r1.el0 q0l b2' (v:=I64 e'.kind) (by rw [hg2]; rfl);have q1:=r1.el q0l b2' 4 (v:=I64 e'.next) (by rw [hg2]; rfl);have q2:=r2.el q0l b1' 4 (v:=I64 e.next) (by rw [hg2]; rfl);rw [i1,i2,z9b,z9b];refine⟨by omega,_,_,r1.some q0l (by omega) b2',_,q0,fun _=>by omega,_,_,fun _=>r1.some q0l (by omega) b2',_,fun _=>q1,fun _=>by omega,_,_,fun _=>r2.some q0l (by omega) b1',_,fun _=>q2,?_,gr⟩
    rw [z9p t4,z9p t5]; rfl
   ·obtain⟨l,e,t1,t2⟩:=qd0 S1.R.ok (show x.p.kind=2 from hk2) he;have t2':q0h (q0h s x.p).1 x.p=(q2i s x.p,[e],0):=t2;have t1':(q0h s x.p).2.1=l++[e]:=t1;refine⟨fun hf=>?_,fun _=>⟨_,h.r 8,fun _=>?_,fun hf=>?_⟩⟩
    ·exfalso;rw [show q2i (q2i s x.p) x.p=q2i s x.p by show (q0h (q2i s x.p) x.p).1=_; rw [t2]] at hf;simp at hf
    ·rw [t2'] at r1 ⊢;rw [t1'] at r2 hlt1 ⊢;rw [z95,za9] at hlt1;have i1:i64.wrap (((l++[e]).length:Nat) - 1:Int)=(l.length:Nat):=by rw [z95,za9,w64]; omega
     have b1':l.length < (l++[e]).length:=by simp
     have q2:=r2.els q0l b1';rw [hg2] at q2;have q1:=r1.els q0l (k:=0) (show 0 < [e].length by simp);rw [i1,z9b];refine⟨fun _=>⟨by omega,by simp⟩,_,_,fun _=>r1.some q0l (by omega) (k:=0) (by simp),_,_,_,_,_,_,_,_,_,_,_,_,_,_,_,_,_,_,_,_,_,_,_,fun _=>q1,fun _=>by omega,_,_,fun _=>r2.some q0l (by omega) b1',_,_,_,_,_,_,_,_,_,_,_,_,_,_,_,_,_,_,_,_,_,_,_,fun _=>q2,true,fun _=>(eq66 e).1,?_,gr⟩
     simp
    ·rw [z9a] at hf; omega
   ·exact absurd hk6' hk
 ·refine⟨0,fun hf=>by simp at hf,0,fun hf=>by simp at hf,0,fun hf=>by simp at hf,hJ _ _ ?_⟩
  exact⟨fun _=>⟨rfl,qbl hs1 h⟩,fun hf=>absurd hf (by simp)⟩
end
end Go.Proofs.YtfmkddccnjidmaaGreatDoor
