/-
  Lemmas for CoreOnce: part 5 of what it rests on. Conditions: none.
-/
import Derived.Test.YtfmkddccnjidmaaGreatDoorPD4
set_option linter.unusedVariables false
set_option linter.unusedSimpArgs false
set_option maxRecDepth 100000
open Go.IntKind (i64 u64 i8 u8 i32 u32 i16 u16)
namespace Go.Nm
open Go.Proofs.YtfmkddccnjidmaaGreatDoor
theorem z47 {x z:VG}{l:List Eff}(h:AllE x l z):∀a b,l=a++b→∃y,AllE x a y∧AllE y b z:=by
 induction h with
 | nil=>
  intro a b h;obtain⟨rfl,rfl⟩:=List.append_eq_nil_iff.1 h.symm;exact⟨_,.nil,.nil⟩
 | @snoc l y e z h1 h2 ih=>
  intro a b h
  rcases List.eq_nil_or_concat b with rfl|⟨b',e',rfl⟩
  ·rw [z9o] at h; subst h;exact⟨z,.snoc h1 h2,.nil⟩
  ·rw [zbj,← z93] at h;obtain⟨h3,h4⟩:=List.append_inj' h rfl
   cases h4
   obtain⟨y',h5,h6⟩:=ih a b' h3;exact⟨y',h5,by rw [zbj]; exact .snoc h6 h2⟩
theorem allE_one {x z:VG}{e:Eff}(h:AllE x [e] z):OneE x e z:=by
 generalize hl:[e]=l at h
 cases h with
 | nil=>cases hl
 | @snoc l y e' _ h1 h2=>
  have:l=[]∧e'=e:=by
   cases l with
   | nil=>simp at hl; exact⟨rfl,hl.symm⟩
   | cons=>simp at hl
  obtain⟨rfl,rfl⟩:=this;generalize hm:([]:List Eff)=l at h1
  cases h1 with
  | nil=>exact h2
  | snoc=>simp at hm
theorem qtl {x z:VG}{l:List Eff}(h:AllE x l z)(k:I2):x.gg k≤z.gg k:=by
 induction h with
 | nil=>exact z9g _
 | snoc h1 h2 ih=>
  refine Int.le_trans ih ?_
  cases h2 with
  | grant hk=>rw [qmt]; split
              ·rename_i e; rw [e]; omega
              ·exact z9g _
  | verdict=>exact z9g _
  | ack=>exact z9g _
  | emit=>exact z9g _
end Go.Nm
namespace Go.Proofs.YtfmkddccnjidmaaGreatDoor
open Go.Nm
abbrev encI3 (x:I3):List Value:=[I64 x.a,I64 x.e,I64 x.n]
abbrev kI3 (x:I3):Value:=.agg ⟨encI3 x⟩
abbrev kI2 (x:I2):Value:=qb9 .i64 (x.a,x.e)
theorem koI3:q9s Tryz.prog 49 kI3:=qg0 Tryz.underlying49 (fun x y h=>by
  cases x; cases y; simp only [List.cons.injEq,Value.int.injEq,and_true,true_and] at h; rw [h.1,h.2.1,h.2.2])
 (fun x y=>by
  have h:q6m Tryz.prog 49 (encI3 x) (encI3 y)=some (x.a == y.a && (x.e == y.e && (x.n == y.n && true))):=by kernel_rfl
  rw [h];congr 1;rw [z9s];simp only [Bool.and_true,z8w,beq_iff_eq,z8u]
  cases x; cases y
  simp)
 (fun x=>by kernel_rfl) (fun x n=>by
  unfold Instr.sameBits; simp [Instr.sameBits])
theorem koI2:q9s Tryz.prog 67 kI2:=q9s.comp (z05 Tryz.underlying67 Tryz.underlying2 (by kernel_rfl)) (fun x:I2=>(x.a,x.e)) fun x y h=>by
 cases x; cases y; simp at h; rw [h.1,h.2]
theorem mtV:MapT Tryz.prog 37 49 3 I64 (0:Int):=qc1 Tryz.underlying37 (by kernel_rfl)
theorem mtG:MapT Tryz.prog 38 67 3 I64 (0:Int):=qc1 Tryz.underlying38 (by kernel_rfl)
section
variable {H0:Heap} {cf:Cfg} {ba:Option Addr} {bc:Nat} {xs:List Rx} {x:Rx}
set_option maxHeartbeats 4000000 in
theorem CoreOnce_true (hlen:xs.length≤maxLen)(hr:rdS H0 ba (flat encX xs))(hxs:∀x∈xs,RxH H0 x):CF 4 #[.agg ⟨qgr cf⟩,.slice ba xs.length bc] H0 fun v H'=>v=.bool true∧Grow H0 H':=by
 have hK0:=xsK_old hlen hr hxs;refine z1c ?_;refine (sat0 H0).al fun b _ h=>?_
 refine z42 (h.o [1,0] 2) fun Q1 H1 hs1 h=>⟨_,rfl,fun hc=>by simp at hc,fun _=>?_⟩
 have hK1:=hK0.sub hs1;refine⟨_,_,_,_,_,_,_,_,_,h.q 1,?_⟩;refine z3n (cf:=cf) (xs:=xs) h hK1 fun H2 h=>⟨_,rfl,fun hg=>⟨rfl,qpc hs1 h⟩,fun hg=>⟨_,_,_,_,_,_,_,_,_,h.q 1,?_⟩⟩
 refine qfk (Q:=Q1) (c:=cf) h (fun hc H3 h=>⟨_,_,rfl,fun _=>⟨rfl,qpc hs1 h⟩,fun hf=>absurd hf (by decide)⟩) fun hc sb H3 h=>⟨_,_,rfl,fun hf=>absurd hf (by simp),fun _=>?_⟩
 have hcl:=z8q hc hg;have hn:=(grR_of hg).1;have hE:=(grR_of hg).2;refine h.alm kI3 I64 fun b1 _ h=>?_
 refine h.alm kI2 I64 fun b2 _ h=>?_
 refine⟨fun i H'=>∃(j:Nat) (Q':Assn) (s:Sta) (x:VG),i=j∧j≤xs.length∧Sub Q1 Q'∧RunR s cf j∧qfq s x j∧
  SatL H' (Q'::mapA kI3 I64 b1 x.v::mapA kI2 I64 b2 x.g::stA Q' sb s::cellsA b (qgr cf) 23::[]),fun i _=>xs.length - i.toNat,
  ⟨0,Q1,newS cf,⟨[],[]⟩,rfl,by omega,Sub.refl _,runR_new (qjs hc),once_new cf,h.o [3,1,0,2,4] 5⟩,?_⟩
 rintro i H4 ⟨j,Q',s,x,rfl,hj,hsub,S,I,h⟩;refine⟨fun hc2=>?_,fun hc2=>⟨rfl,qpc (hs1.trans hsub) h⟩⟩
 have hlt:j < xs.length:=by have:=z8s hc2; omega
 have hr:=((hK0.sub hs1).rd.sub hsub).at h 0 rfl;have hmem:=z92 hlt;have hx:=hxs _ hmem;have hv:∀e∈xs[j].p.evs,wf64 e.value:=hx.k.vals;have hlx:xs[j].p.evs.length≤100:=by show (xs[j].evs.map Ev.p).length≤100; rw [z9c]; exact (grE_of (hE _ hmem)).1
 refine⟨by omega,_,_,hr.some qee (by omega) hlt,_,_,_,_,_,_,_,_,_,_,_,_,_,_,by simpa using hr.els qee hlt,?_⟩;have S2:=S.step hv;have k1:=S.few hcl (by omega);have k2:=S2.few hcl (by omega);obtain⟨z,A,I2_⟩:=z8r (r:=xs[j].p) S.R.ok I;have nl:=z8p S.R.ok hlx;refine Own_spec (x:=xs[j]) h (hx.k.sub (hs1.trans hsub)) (hE _ hmem) fun Q2 a2 c2 evs2 H5 hs2 hrec h=>⟨_,_,_,_,_,_,_,_,_,_,_,_,_,_,rfl,?_⟩
 have h:=qwe hs2 (h.o [4,0,1,2,3,5] 6);have h:=h.o [1,0,2,3,4,5] 6;have ba1:=S.R.sunk;refine qmd S.R.ok (by omega) (by omega) (hrec _) h fun Q3 a3 c3 H6 hs3 h=>⟨_,_,_,_,rfl,?_⟩
 obtain⟨ef,s2,hef,hs2e,S2,A,I2_,nl⟩:∃(ef:List Eff) (s2:Sta),(q3h s xs[j].p).2.1=ef∧(q3h s xs[j].p).1=s2∧RunR s2 cf (j+1)∧AllE x ef z∧qfq s2 z (j+1)∧ef.length≤2000:=⟨_,_,rfl,rfl,S2,A,I2_,nl⟩;rw [hef,hs2e] at h;rw [hef];refine⟨fun k H'=>∃(m:Nat) (y:VG),k=m∧m≤ef.length∧AllE y (ef.drop m) z∧(∀k,0≤y.gg k)∧
  SatL H' (Q3::slA 66 87 a3 ef.length c3 (flat q37 ef)::mapA kI3 I64 b1 y.v::mapA kI2 I64 b2 y.g::stA Q3 sb s2::slA 95 4 a2 evs2.length c2 (flat encV evs2)::cellsA b (qgr cf) 23::[]),fun k _=>ef.length - k.toNat,
  ⟨0,x,rfl,by omega,A,fun k=>(I.b k).1,h.o [0,1,4,5,2,3,6] 7⟩,?_⟩
 rintro k H7 ⟨m,y,rfl,hm,A,hy0,h⟩;refine⟨fun hc3=>?_,fun hc3=>?_⟩
 ·have hltm:m < ef.length:=by have:=z8s hc3; omega
  have re:=h.sl_rd 1 rfl;have hwm:i64.wrap ((m:Int)+1)=((m+1:Nat):Int):=w64;rw [z9z hltm] at A;obtain⟨y',A1,A2⟩:=z47 A [ef[m]] (ef.drop (m+1)) rfl;have hy1:∀k,0≤y'.gg k:=fun k=>Int.le_trans (hy0 k) (qtl A1 k)
  have A1:=allE_one A1;have hgb:∀k,y'.gg k≤81:=fun k=>by have:=qtl A2 k; have:=(I2_.b k).2; omega
  generalize hE':ef[m]=e at A1;refine⟨by omega,_,_,re.some q0u (by omega) hltm,_,_,_,_,_,_,_,_,_,_,_,_,_,_,_,_,_,_,_,_,_,_,_,by simpa [hE'] using re.els q0u hltm,?_⟩;refine h.al fun b5 _ h=>?_
  refine h.sta 0 rfl rfl fun H8 h=>?_
  have h:SatL _ (cellsA b5 (q37 e) 66::_):=h;refine⟨_,h.r 0,?_⟩;intro Jn hJ;have done:∀H',SatL H' (cellsA b5 (q37 e) 66::Q3::slA 66 87 a3 ef.length c3 (flat q37 ef)::mapA kI3 I64 b1 y'.v::mapA kI2 I64 b2 y'.g::stA Q3 sb s2::slA 95 4 a2 evs2.length c2 (flat encV evs2)::cellsA b (qgr cf) 23::[])→Jn H':=fun H' h=>hJ _ (by
   rw [hwm];exact⟨⟨m+1,y',rfl,hltm,A2,hy1,h.tl⟩,by dsimp only; omega⟩)
  cases A1 with
  | grant hk=>
   refine⟨fun _=>?_,fun hf=>absurd hk (by simpa using hf)⟩
   refine⟨_,h.r 0,_,h.r 0,_,h.mp_get1 mtG koI2 (x:=⟨e.agent,e.epoch⟩) 4 rfl,?_⟩;have hb:=hgb ⟨e.agent,e.epoch⟩;rw [qmt,if_pos rfl] at hb;have hb2:=hy0 ⟨e.agent,e.epoch⟩;have hw:i64.wrap ((q08 (⟨e.agent,e.epoch⟩:I2) y.g).getD 0+1)=y.gg ⟨e.agent,e.epoch⟩+1:=w64 (x:=y.gg ⟨e.agent,e.epoch⟩+1);dsimp only;rw [hw];refine h.mp_entry mtG koI2 (x:=⟨e.agent,e.epoch⟩) 4 rfl fun n H9 h9 hs=>⟨_,_,rfl,?_,hs _ _ fun H10 h=>done _ h⟩
   have:=h9.mp_get1 mtG koI2 (x:=⟨e.agent,e.epoch⟩) 4 rfl;rw [q3k,if_pos rfl] at this;exact this
  | verdict hk h0 h1=>
   refine⟨fun hf=>absurd hf (by simp [hk]),fun _=>?_⟩
   intro Jn1 hJ1;refine⟨fun _=>?_,fun hf=>absurd hk (by simpa using hf)⟩
   unfold VG.vv at h0;unfold VG.gg at h1;have r2:=h.mp_get1 mtV koI3 (x:=⟨e.ida,e.ide,e.seq⟩) 3 rfl;rw [h0] at r2;refine⟨_,_,_,h.q 0,_,r2,?_⟩;refine h.mp_entry mtV koI3 (x:=⟨e.ida,e.ide,e.seq⟩) 3 rfl fun n H9 h9 hs=>⟨_,_,rfl,?_,hs 1 _ fun H10 h=>?_⟩
   ·have:=h9.mp_get1 mtV koI3 (x:=⟨e.ida,e.ide,e.seq⟩) 3 rfl;rw [q3k,if_pos rfl,Option.getD_some,h0] at this;exact this
   have r4:=h.mp_get1 mtV koI3 (x:=⟨e.ida,e.ide,e.seq⟩) 3 rfl;rw [q3k,if_pos rfl] at r4;refine⟨_,_,_,h.q 0,_,r4,_,fun _=>h.r 0,_,fun _=>h.r 0,_,fun _=>h.mp_get1 mtG koI2 (x:=⟨e.ida,e.ide⟩) 4 rfl,fun hc=>?_,fun _=>hJ1 _ (done _ h)⟩
   simp only [Option.getD_some,z97,z8u] at hc;omega
  | ack hk ha=>
   refine⟨fun hf=>absurd hf (by simp [hk]),fun _=>?_⟩
   intro Jn1 hJ1;refine⟨fun hf=>absurd hf (by simp [hk]),fun _=>?_⟩
   intro Jn2 hJ2;refine⟨fun _=>?_,fun hf=>absurd hk (by simpa using hf)⟩
   refine⟨fun n2 H'=>∃q:Nat,n2=q∧q≤10000∧SatL H' (cellsA b5 (q37 e) 66::Q3::slA 66 87 a3 ef.length c3 (flat q37 ef)::mapA kI3 I64 b1 y.v::mapA kI2 I64 b2 y.g::stA Q3 sb s2::slA 95 4 a2 evs2.length c2 (flat encV evs2)::cellsA b (qgr cf) 23::[]),fun n2 _=>10000 - n2.toNat,⟨0,rfl,by omega,h⟩,?_⟩
   rintro n2 H9 ⟨q,rfl,hq,h⟩;refine⟨_,h.r 0,fun hc=>?_,fun _=>hJ2 _ (hJ1 _ (done _ h))⟩
   have hc':(q:Int) < e.next∧(q:Int) < 10000:=by simpa using hc
   have:=ha q (by omega) hc'.1 hc'.2;unfold VG.vv at this;have r6:=h.mp_get1 mtV koI3 (x:=⟨e.agent,e.epoch,q⟩) 3 rfl;rw [this] at r6;refine⟨_,h.r 0,_,h.r 0,_,r6,fun hne=>absurd hne (by simp),fun _=>?_⟩
   rw [w64 (x:=(q:Int)+1)];exact⟨⟨q+1,by omega,by omega,h⟩,by dsimp only; omega⟩
  | emit hk=>
   refine⟨fun hf=>absurd hf (by simp [hk]),fun _=>?_⟩
   intro Jn1 hJ1;refine⟨fun hf=>absurd hf (by simp [hk]),fun _=>?_⟩
   intro Jn2 hJ2;exact⟨fun hf=>absurd hf (by simp [hk]),fun _=>hJ2 _ (hJ1 _ (done _ h))⟩
 ·have hge:ef.length≤m:=by have:=z8v hc3; omega
  rw [List.drop_eq_nil_of_le hge] at A;have hyz:y=z:=by
   generalize hl:([]:List Eff)=l at A
   cases A with
   | nil=>rfl
   | snoc=>simp at hl
  subst hyz;rw [w64 (x:=(j:Int)+1)];exact⟨⟨j+1,Q3,s2,y,by omega,hlt,(hsub.trans hs2).trans hs3,S2,I2_,h.o [0,2,3,4,6] 7⟩,by dsimp only; omega⟩
end
end Go.Proofs.YtfmkddccnjidmaaGreatDoor
