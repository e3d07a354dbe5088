/-
  Lemmas for CoreBack: part 5 of what it rests on. Conditions: none.
-/
import Derived.Test.YtfmkddccnjidmaaGreatDoorPE4
set_option linter.unusedVariables false
set_option linter.unusedSimpArgs false
set_option maxRecDepth 100000
open Go.IntKind (i64 u64 i8 u8 i32 u32 i16 u16)
namespace Go.Nm
theorem qpg {α:Type}:∀{l:List (Option α)} {i:Nat} {p:Int × Option α},p∈tabP i l→∃(k:Nat) (b:α),p=(((i+k:Nat):Int),some b)∧l[k]?=some (some b)
 | [],i,p,h=>by simp [tabP] at h
 | none::r,i,p,h=>by
  obtain⟨k,b,h1,h2⟩:=qpg (l:=r) (i:=i+1) h;exact⟨k+1,b,by rw [h1,show i+1+k=i+(k+1) by omega],by simpa using h2⟩
 | some b::r,i,p,h=>by
  rcases z9j.1 h with rfl|h
  ·exact⟨0,b,rfl,rfl⟩
  ·obtain⟨k,b',h1,h2⟩:=qpg (l:=r) (i:=i+1) h;exact⟨k+1,b',by rw [h1,show i+1+k=i+(k+1) by omega],by simpa using h2⟩
end Go.Nm
namespace Go.Proofs.YtfmkddccnjidmaaGreatDoor
open Go.Nm
theorem qzu {Q:Assn}{bl:List (Option Nat)}{sts:List (Option Str)}{k b:Nat}{s:Str}(h1:bl[k]?=some (some b))(h2:sts[k]?=some (some s)) :
  strsA Q bl sts=strA Q b s*strsA Q (bl.set k none) (sts.set k none):=by
 obtain⟨l1,e1⟩:=List.getElem?_eq_some_iff.1 h1;obtain⟨l2,e2⟩:=List.getElem?_eq_some_iff.1 h2;rw [q7r (k:=k) (by rw [List.getElem?_set_self l1]) (by rw [List.getElem?_set_self l2]),zbf,zbf,← e1,← e2,zax,zax]
section
variable {F L:List Assn} {H:Heap} {K:Value→Heap→Prop} {Q:Assn}
theorem q15 {A B:Assn}:SatL H ((A*B)::L)↔SatL H (A::B::L):=by
 unfold SatL star; rw [star]; rw [q1h]
set_option maxHeartbeats 4000000 in
theorem qxf {sb:Nat}{s:Sta}(hkl:s.kept.length≤1000000)(ok:q1y s)(h:SatL H (stA Q sb s::F))(k:∀sb' H',SatL H' (stA Q sb' s::stA Q sb s::F)→K (PA sb' 0) H'):CF 29 #[PA sb 0] H K:=by
 obtain⟨p,h⟩:=q0f.1 h;refine z1l ⟨_,_,_,_,_,_,_,_,_,_,_,_,_,_,_,_,_,_,_,_,_,_,h.rda 0 rfl,?_⟩;refine h.al fun b _ h=>?_
 refine h.sta 0 rfl rfl fun H1 h=>?_
 have h:SatL _ (cellsA b (q2w s p) 115::_):=h;refine⟨_,h.r 1,_,h.r 1,_,h.r 1,?_⟩;refine Ro.Clone_spec (h.o [2,3,0,1,4,5,6,7,8,9] 10) fun rb' rm' H2 h=>⟨_,rfl,h.r 5,h.r 5,?_⟩
 refine Ma.Clone_spec (h.o [6,7,0,1,2,3,4,5,8,9,10,11] 12) fun mb' mm' H3 h=>⟨_,rfl,h.r 9,?_⟩
 refine qsf (h.o [10,11,0,1,2,3,4,5,6,7,8,9,12,13] 14) fun hb' hm' H4 h=>⟨_,rfl,?_⟩
 refine h.st 12 rfl rfl fun _ h=>h.st 12 rfl rfl fun _ h=>h.st 12 rfl rfl fun _ h=>⟨_,_,_,h.r 13,?_⟩
 refine qm1 (l:=s.kept) h (fun H h=>h.sl_rd 15 rfl) hkl fun ka' kc' H8 h=>⟨_,_,_,rfl,?_⟩
 refine h.st 13 rfl rfl fun _ h=>?_
 refine h.alm I64 ptV fun b1 _ h=>?_
 refine h.st 14 rfl rfl fun H11 h=>⟨_,h.r 15,?_⟩
 have h:=h.o [16,0,14,1,2,3,4,5,6,7,8,9,10,11,12,13,15,17] 18;obtain⟨bl,hm,h⟩:=q3o.1 h;have hlen:bl.length=s.sts.length:=by have:=congrArg List.length hm; simpa using this
 obtain⟨R,hR⟩:∃R:List Assn,R=slA 64 74 ka' s.kept.length kc' (flat encO s.kept)::shC hb' hm' s.cfg.cells::mapC hm' s.cm::shC p.hb p.hm s.cfg.cells::mapC p.hm s.cm::Ma.markC mb' mm' s.ms::Ma.mapF mm' s.ms.m::Ma.markC p.mb p.mm s.ms::Ma.mapF p.mm s.ms.m::
  Ro.rollC rb' rm' s.cfg.agents::Ro.mapE rm' s.rows::Ro.rollC p.rb p.rm s.cfg.agents::Ro.mapE p.rm s.rows::cellsA sb (q2w s p) 115::slA 64 74 p.ka s.kept.length p.kc (flat encO s.kept)::F:=⟨_,rfl⟩
 have h:SatL H11 (mapA I64 ptV p.tm (tabP 0 bl)::strsA Q bl s.sts::mapA I64 ptV b1 []::cellsA b (q2w s ⟨rb',rm',mb',mm',hb',hm',b1,ka',kc'⟩) 115::R):=by rw [hR]; exact h
 refine h.rg_new qwp 0 rfl fun it H12 h=>⟨it,rfl,?_⟩
 refine⟨fun H'=>∃(dn:List (Int × Option Nat)) (bl':List (Option Nat)) (sts':List (Option Str)),bl'.map Option.isSome=sts'.map Option.isSome∧sts'.length=s.sts.length∧
  (∀k:Nat,k < s.sts.length→sts'[k]?=if ((k:Nat):Int)∈q01 dn then s.sts[k]? else some none)∧
  SatL H' (rngA I64 ptV it p.tm (tabP 0 bl) dn::strsA Q bl s.sts::mapA I64 ptV b1 (tabP 0 bl')::strsA Q bl' sts'::cellsA b (q2w s ⟨rb',rm',mb',mm',hb',hm',b1,ka',kc'⟩) 115::R),fun H'=>(tabP 0 bl).length - qup H' it,
  ⟨[],List.replicate 64 none,List.replicate 64 none,by simp,by simp [ok.len],fun k hk=>by rw [ok.len] at hk; rw [List.getElem?_replicate,if_pos hk,if_neg (by simp [q01])],?_⟩,?_⟩
 ·rw [qjr];have e:tabP 0 (List.replicate 64 (none:Option Nat))=[]:=by decide
  rw [e];exact (emp1 h).o [1,2,3,0,4] 5
 rintro H2 ⟨dn,bl',sts',hmm,hl',hst,h⟩;obtain⟨hc0,hle⟩:=h.rg_count 0 rfl;refine h.rg_next 0 rfl (fun hp=>.inl ⟨rfl,fun hf=>(by cases hf),fun _=>?_⟩) fun q hqm hqn H3 h=>.inr ⟨_,_,rfl,fun _=>?_,fun hf=>(by cases hf)⟩
 ·
  have h:=h.rg_map 0 rfl;have e:sts'=s.sts:=by
   apply zbm;intro i
   rcases z9t i s.sts.length with hi|hi
   ·rw [hst i hi]
    split
    ·rfl
    ·rename_i hn;have hb:bl[i]?=some none:=by
      cases hbi:bl[i]? with
      | none=>rw [List.getElem?_eq_none_iff] at hbi; omega
      | some o=>
       cases o with
       | none=>rfl
       | some b0=>
        exfalso;have hl:=qan (l:=bl) (i:=0) (k:=i);rw [hbi,z9r] at hl;refine hn ?_;have:((i:Int),some b0)∈tabP 0 bl:=q0e hl;exact z9d.2 ⟨_,hp.mem_iff.2 this,rfl⟩
     have:=q79 hm i;rw [hb] at this
     cases hs:s.sts[i]? with
     | none=>rw [hs] at this; cases this
     | some o=>rw [hs] at this; cases o with
      | none=>rfl
      | some _=>cases this
   ·rw [List.getElem?_eq_none (by omega),List.getElem?_eq_none hi]
  rw [e] at h hmm;subst hR;refine k b _ ?_;have h:=q3o.2 ⟨bl,hm,h⟩;have h:=q3o.2 ⟨bl',hmm,h.o [1,2,0,3] 4⟩;have h:=q0f.2 ⟨p,h.o [16,14,15,10,11,6,7,1,17,0,2,3,4,5,8,9,12,13] 18⟩;exact q0f.2 ⟨⟨rb',rm',mb',mm',hb',hm',b1,ka',kc'⟩,h.o [2,8,9,6,7,4,5,1,3,0] 10⟩
 ·obtain⟨i,bk,rfl,hbi⟩:=qpg hqm;rw [z9r] at *;have hil:i < s.sts.length:=by have:=(List.getElem?_eq_some_iff.1 hbi).1; omega
  have hsi:∃st,s.sts[i]?=some (some st):=by
   have:=q79 hm i;rw [hbi] at this
   cases hs:s.sts[i]? with
   | none=>rw [hs] at this; cases this
   | some o=>rw [hs] at this; cases o with
    | none=>cases this
    | some st=>exact⟨st,rfl⟩
  obtain⟨st,hsi⟩:=hsi;have hsok:=ok.sts st (z9x hsi);have hent:=SatL.rg_entry (P:=Tryz.prog) h 0 rfl;obtain⟨hc1,hle1⟩:=h.rg_count 0 rfl;rw [z95,zag] at hc1 hle1;refine⟨_,_,hent,?_⟩;have h:=h.o [1,0,2,3,4] 5;have h:SatL H3 (strsA Q bl s.sts::_):=h;rw [qzu hbi hsi] at h;have h:=q15.1 h;obtain⟨cb,hb,h⟩:=q0y.1 h;refine⟨_,h.r 7,q02 ⟨_,h.r 0,q02 ⟨_,h.r 0,q02 ⟨_,h.r 0,?_⟩⟩⟩⟩;refine qs7 (h.o [1,0,2,3,4,5,6,7] 8) (by have:=hsok.ck.len; omega) fun cb' H5 h=>⟨_,rfl,h.r 2,h.r 2,h.r 8,?_⟩
  refine qji (h.o [3,0,1,2,4,5,6,7,8] 9) fun hb' H6 h=>⟨_,rfl,h.r 4,h.r 9,?_⟩
  refine h.al fun b3 _ h=>⟨h.r 10,?_⟩
  refine h.mp_update (v:=some b3) qwp ko2 8 rfl fun H7 h=>⟨?_,?_⟩
  ·have hnone:sts'[i]?=some none:=by rw [hst i hil,if_neg hqn]
   have hbn:bl'[i]?=some none:=by
    have:=q79 hmm i;rw [hnone] at this
    cases hs:bl'[i]? with
    | none=>rw [hs] at this; cases this
    | some o=>rw [hs] at this; cases o with
     | none=>rfl
     | some _=>cases this
   have hbl':i < bl'.length:=(List.getElem?_eq_some_iff.1 hbn).1;refine⟨dn++[((i:Int),some bk)],bl'.set i (some b3),sts'.set i (some st),?_,by rw [List.length_set,hl'],fun j hj=>?_,?_⟩
   ·rw [zbe,zbe,hmm]; rfl
   ·rw [List.getElem?_set];have hk:q01 (dn++[((i:Int),some bk)])=q01 dn++[(i:Int)]:=by simp [q01]
    rw [hk]
    by_cases e:i=j
    ·subst e;rw [if_pos rfl,if_pos (by omega),if_pos (by simp),hsi]
    ·rw [if_neg e,hst j hj];have:(((j:Nat):Int)∈q01 dn++[(i:Int)])↔((j:Nat):Int)∈q01 dn:=by
      rw [zad,z9z];exact⟨fun h=>h.elim id fun h=>absurd h (by omega),.inl⟩
     simp only [this]
   ·have em:mapA I64 ptV b1 (mset ((i:Nat):Int) (some b3) (tabP 0 bl'))=mapA I64 ptV b1 (tabP 0 (bl'.set i (some b3))):=q3w (by
     have:=qh8 (b:=b3) (l:=bl') (i:=0) (k:=i) hbl';rw [z9r] at this;exact this.symm)
    rw [← q7r (b:=b3) (s:=st) hbn hnone,qzu hbi hsi];have h:=q0y.2 ⟨cb',hb',h.o [0,3,1,2,4,5,6,7,8,9,10] 11⟩;have h:=q0y.2 ⟨cb,hb,h.o [3,2,1,0,4,5,6,7,8] 9⟩;have h:=q15.2 (h.o [0,2,1,3,4,5,6] 7);have h:=q15.2 (h.o [1,4,0,2,3,5] 6);have h:=h.o [2,1,3,0,4] 5;rw [← em];exact h
  ·obtain⟨hc4,_⟩:=h.rg_count 7 rfl;rw [z95,zag] at hc4;simp only;omega
end
open Go.Nm
section
variable {F L:List Assn} {H:Heap} {Q Q':Assn}
theorem stA_perm {sb:Nat}{s:Sta}(R:Rch s)(h:SatL H (stA Q sb (q60 s)::F)):SatL H (stA Q sb s::F):=by
 obtain⟨p,h⟩:=q0f.1 h;have hp:=q8j R;have e1:Ma.mapF p.mm (q60 s).ms.m=Ma.mapF p.mm s.ms.m:=q3w hp.1.symm;have e2:mapC p.hm (q60 s).cm=mapC p.hm s.cm:=q3w hp.2.symm;rw [e1,e2] at h;exact q0f.2 ⟨p,h⟩
theorem qxg {a b c:Nat}{s t u:Sta}(hs:Sub Q Q')(h:SatL H (stA Q a s::stA Q b t::stA Q c u::F)):SatL H (stA Q' a s::stA Q' b t::stA Q' c u::F):=by
 have h:=(q5h hs h).o [1,0,2] 3;have h:=(q5h hs h).o [2,0,1] 3;exact (q5h hs h).o [2,1,0] 3
end
section
variable {H0:Heap} {cf:Cfg} {ba da:Option Addr} {bc dc:Nat} {xs ys:List Rx}
set_option maxHeartbeats 8000000 in
theorem CoreBack_true (hlen:xs.length≤maxLen)(hr:rdS H0 ba (flat encX xs))(hxs:∀x∈xs,RxH H0 x)(hlen2:ys.length≤maxLen)(hr2:rdS H0 da (flat encX ys))(hys:∀x∈ys,RxH H0 x) :
  CF 8 #[.agg ⟨qgq cf⟩,.slice ba xs.length bc,.slice da ys.length dc] H0 fun v H'=>v=.bool true∧Grow H0 H':=by
 have hK0:=z8d hlen hr hxs;have hM0:=z8d hlen2 hr2 hys;refine z1s ?_;refine (sat0 H0).al fun b _ h=>?_
 refine z4i (h.o [1,0] 2) fun Q1 H1 hs1 h=>⟨_,rfl,fun hc=>by simp at hc,fun _=>?_⟩
 intro Jn hJ;have hK1:=hK0.sub hs1;have hM1:=hM0.sub hs1;refine⟨_,_,_,_,_,_,_,_,_,h.q 1,?_⟩;refine qmj (cf:=cf) (xs:=xs) h hK1 fun H2 h=>⟨_,rfl,_,_,_,_,_,_,_,_,_,fun _=>h.q 1,fun hg=>?_,fun _=>hJ _ _ ⟨fun _=>⟨rfl,qhi hs1 h⟩,fun hf=>absurd hf (by simp)⟩⟩
 refine qmj (cf:=cf) (xs:=ys) h hM1 fun H3 h=>⟨_,rfl,hJ _ _ ⟨fun _=>⟨rfl,qhi hs1 h⟩,fun hg2=>?_⟩⟩
 refine⟨_,_,_,_,_,_,_,_,_,h.q 1,?_⟩;refine z8c (cf:=cf) (xs:=xs) h hK1 hg (fun hc H4 h=>⟨_,rfl,fun _=>?_,fun hf=>absurd hf (by simp)⟩) fun hc Q4 sb H4 hs4 h=>⟨_,rfl,fun hf=>absurd hf (by simp),fun _=>?_⟩
 ·refine⟨_,_,_,_,_,_,_,_,_,h.q 1,?_⟩;refine qfr (c:=cf) (bs:=[]) h (fun H h j v hj=>by cases hj) (.inl rfl) (fun x hx=>by cases hx) (by simp) (fun hR=>absurd hR (by rw [hc]; simp)) (fun _ H5 h=>⟨_,_,rfl,_,_,_,_,_,_,_,_,_,h.q 1,?_⟩) (fun hR=>absurd hR (by rw [hc]; simp)) (fun hR=>absurd hR (by rw [hc]; simp))
  refine q95 (c:=cf) h fun H6 h=>⟨_,rfl,?_⟩
  rw [hc];exact⟨rfl,qhi hs1 h⟩
 have hcl:=z94 hc hg;have hn:=(qzh hg).1;have hn2:=(qzh hg2).1;have hE:=(qzh hg2).2;have S1:RunR (runS (newS cf) (xs.map Rx.p)) cf (0+(xs.map Rx.p).length):=(runR_new (qfn hc)).run fun r hr=>by
  obtain⟨y,hy,rfl⟩:=z9d.1 hr;exact (hxs y hy).k.vals
 rw [z9o] at S1;generalize runS (newS cf) (xs.map Rx.p)=s at h S1;have k1:=S1.few hcl (by omega);refine⟨_,_,_,_,_,_,_,_,_,h.q 2,?_⟩;refine q2x S1.R.ok S1.R.ser (by omega) h fun a5 c5 H5 h=>⟨_,_,_,rfl,h.q 3,?_⟩
 have hsA:a5=none∨∃k o,a5=some ⟨k,o,none⟩:=by
  rcases (q3a (F:=star _) h).2 with ⟨h2,_⟩|⟨b,pre,post,e',fr,h2,_⟩
  ·exact .inl h2
  ·exact .inr ⟨_,_,h2⟩
 have hp1:q7d cf (stB s)=.ok (q60 s):=by
  have:=qmr S1.R (by omega);rw [S1.cfg] at this;exact this
 have hpS:qc4 cf (stB s)=.ok (q60 s):=by
  unfold qc4;rw [if_neg (by rw [hc]; simp),hp1];dsimp only;rw [if_pos (qms S1.R)]
 have hll:=qxe S1.R.ok S1.R.ser (by omega);refine qfr (c:=cf) (h.o [1,0,2,3] 4) (fun H h=>h.sl_rd 0 rfl) hsA (qk2 _) (by omega) (fun _ s' hs'=>?_) (fun hR=>absurd hR (by rw [hc]; simp)) (fun _ e he=>by rw [hpS] at he; cases he) fun _ s' hs'=>?_
 ·rw [hp1] at hs'
  cases hs'
  exact⟨⟨fun p hp=>(S1.R.ser).cm p ((q8j S1.R).2.mem_iff.2 hp),S1.R.ser.kept⟩,by show s.kept.length≤_; omega⟩
 rw [hpS] at hs'
 cases hs'
 intro Q6 tb H6 hs6 h;refine⟨_,_,rfl,?_⟩;have h:=stA_perm S1.R (h.o [1,0,2,3,4] 5);have h:=q5h hs6 (h.o [3,0,1,4] 5);refine qxf (by omega) S1.R.ok h fun ub H7 h=>⟨_,rfl,?_⟩
 intro Jn1 hJ1;have sz6:=(hs1.trans hs4).trans hs6;refine⟨fun _=>?_,fun hf=>absurd rfl hf⟩
 refine q2x S1.R.ok S1.R.ser (by omega) (h.o [3,2,1,0,4] 5) fun a8 c8 H8 h=>⟨_,_,_,rfl,?_⟩
 refine q2x S1.R.ok S1.R.ser (by omega) (h.o [1,3,0,2,4,5] 6) fun a9 c9 H9 h=>⟨_,_,_,rfl,?_⟩
 refine⟨_,q7v (h.sl_rd 3 rfl) (h.sl_rd 0 rfl) (by omega),hJ1 _ _ ⟨fun hf=>absurd hf (by simp),fun _=>?_⟩⟩
 refine⟨fun i H'=>∃(j:Nat) (Q':Assn) (s':Sta),i=j∧j≤ys.length∧Sub Q6 Q'∧RunR s' cf (0+xs.length+j)∧
  SatL H' (Q'::stA Q' sb s'::stA Q' tb s'::stA Q' ub s'::cellsA b (qgq cf) 23::[]),fun i _=>ys.length - i.toNat,
  ⟨0,Q6,s,rfl,by omega,Sub.refl _,S1,h.o [1,2,4,5,6] 7⟩,?_⟩
 clear h S1 k1 hp1 hpS hll
 rintro i H10 ⟨j,Q',s',rfl,hj,hsub,S,h⟩;have k1:=S.few hcl (by omega);have szq:=sz6.trans hsub;refine⟨fun hc2=>?_,fun hc2=>?_⟩
 ·have hlt:j < ys.length:=by have:=z96 hc2; omega
  have hmem:=z9f hlt;have hx:=hys _ hmem;have hv:∀e∈ys[j].p.evs,wf64 e.value:=hx.k.vals;have hlx:ys[j].p.evs.length≤100:=by show (ys[j].evs.map Ev.p).length≤100; rw [z9o]; exact (grE_of (hE _ hmem)).1
  have S2:=S.step hv;have k2:=S2.few hcl (by omega);have nl:=z93 S.R.ok hlx;have ba1:=S.R.sunk;have rd:∀{Qx:Assn} {Hx:Heap} {Fx:List Assn},Sub Q' Qx→SatL Hx (Qx::Fx)→rdS Hx da (flat encX ys):=fun hq h=>(hM1.rd.sub (((hs4.trans hs6).trans hsub).trans hq)).at h 0 rfl
  have r1:=rd (Sub.refl _) h;refine⟨by omega,_,_,r1.some q4t (by omega) hlt,_,_,_,_,_,_,_,_,_,_,_,_,_,_,by simpa using r1.els q4t hlt,?_⟩;refine qhe (x:=ys[j]) h (hx.k.sub szq) (hE _ hmem) fun Q2 a2 c2 evs2 H11 hs2 hrec2 h=>⟨_,_,_,_,_,_,_,_,_,_,_,_,_,_,rfl,?_⟩
  have h:=qxg hs2 (h.o [2,3,4,0,1,5] 6);refine q8g S.R.ok (by omega) (by omega) (hrec2 _) (h.o [3,0,4,1,2,5] 6) fun Q3 a3 c3 H12 hs3 h=>⟨_,_,_,_,rfl,?_⟩
  have h4:=q5h hs3 (h.o [4,0,1,2,5,6] 7);have h:=q5h hs3 (h4.o [4,0,1,2,3,5] 6);have h:=h.o [2,4,1,0,3,5] 6;have s23:=hs2.trans hs3;have r2:=rd s23 h;refine⟨by omega,_,_,r2.some q4t (by omega) hlt,_,_,_,_,_,_,_,_,_,_,_,_,_,_,by simpa using r2.els q4t hlt,?_⟩;refine qhe (x:=ys[j]) h (hx.k.sub (szq.trans s23)) (hE _ hmem) fun Q4 a4 c4 evs4 H13 hs4' hrec4 h=>⟨_,_,_,_,_,_,_,_,_,_,_,_,_,_,rfl,?_⟩
  have h:=qxg hs4' (h.o [2,3,4,0,1,5,6] 7);refine q8g S.R.ok (by omega) (by omega) (hrec4 _) (h.o [3,1,4,0,2,5,6] 7) fun Q5 a5 c5 H14 hs5 h=>⟨_,_,_,_,rfl,?_⟩
  have h4:=q5h hs5 (h.o [4,0,1,2,5,6,7] 8);have h:=q5h hs5 (h4.o [4,0,1,2,3,5,6] 7);have h:=h.o [2,1,4,0,5,3,6] 7;have s45:=s23.trans (hs4'.trans hs5);have r3:=rd s45 h;refine⟨by omega,_,_,r3.some q4t (by omega) hlt,_,_,_,_,_,_,_,_,_,_,_,_,_,_,by simpa using r3.els q4t hlt,?_⟩;refine qhe (x:=ys[j]) h (hx.k.sub (szq.trans s45)) (hE _ hmem) fun Q7 a7 c7 evs7 H15 hs7 hrec7 h=>⟨_,_,_,_,_,_,_,_,_,_,_,_,_,_,rfl,?_⟩
  have h:=qxg hs7 (h.o [2,3,4,0,1,5,6,7] 8);refine q8g S.R.ok (by omega) (by omega) (hrec7 _) (h.o [3,2,4,0,1,5,6,7] 8) fun Q8 a8 c8 H16 hs8 h=>⟨_,_,_,_,rfl,?_⟩
  have h4:=q5h hs8 (h.o [4,0,1,2,5,6,7,8] 9);have h:=q5h hs8 (h4.o [4,0,1,2,3,5,6,7] 8);have h:=h.o [2,1,0,4,5,6,3,7] 8;have s78:=s45.trans (hs7.trans hs8);obtain⟨ef,s2,hef,hs2e,S2,nl⟩:∃(ef:List Eff) (s2:Sta),(q24 s' ys[j].p).2.1=ef∧(q24 s' ys[j].p).1=s2∧RunR s2 cf (0+xs.length+j+1)∧ef.length≤2000:=⟨_,_,rfl,rfl,S2,nl⟩;rw [hef,hs2e] at h;rw [hef];refine⟨fun hf=>absurd hf (by simp),fun _=>?_⟩
  refine⟨fun k H'=>∃m:Nat,k=m∧m≤ef.length∧SatL H' (Q8::stA Q8 sb s2::stA Q8 tb s2::stA Q8 ub s2::slA 66 87 a3 ef.length c3 (flat q30 ef)::slA 66 87 a5 ef.length c5 (flat q30 ef)::slA 66 87 a8 ef.length c8 (flat q30 ef)::cellsA b (qgq cf) 23::[]),
   fun k _=>ef.length - k.toNat,⟨0,rfl,by omega,h⟩,?_⟩
  clear h
  rintro k H17 ⟨m,rfl,hm,h⟩;refine⟨fun hc3=>?_,fun hc3=>?_⟩
  ·have hltm:m < ef.length:=by have:=z96 hc3; omega
   have q1:=h.sl_rd 4 rfl;have q2:=h.sl_rd 5 rfl;have q3:=h.sl_rd 6 rfl;refine⟨by omega,_,_,q1.some q0m (by omega) hltm,_,_,_,_,_,_,_,_,_,_,_,_,_,_,_,_,_,_,_,_,_,_,_,by simpa using q1.els q0m hltm,
    by omega,_,_,q2.some q0m (by omega) hltm,_,_,_,_,_,_,_,_,_,_,_,_,_,_,_,_,_,_,_,_,_,_,_,by simpa using q2.els q0m hltm,false,(eq66 _).2,
    fun _=>by omega,_,_,fun _=>q1.some q0m (by omega) hltm,_,_,_,_,_,_,_,_,_,_,_,_,_,_,_,_,_,_,_,_,_,_,_,fun _=>by simpa using q1.els q0m hltm,
    fun _=>by omega,_,_,fun _=>q3.some q0m (by omega) hltm,_,_,_,_,_,_,_,_,_,_,_,_,_,_,_,_,_,_,_,_,_,_,_,fun _=>by simpa using q3.els q0m hltm,false,fun _=>(eq66 _).2,fun hf=>absurd hf (by simp),fun _=>?_⟩
   rw [w64 (x:=(m:Int)+1)];exact⟨⟨m+1,by omega,hltm,h⟩,by dsimp only; omega⟩
  ·rw [w64 (x:=(j:Int)+1)];exact⟨⟨j+1,Q8,s2,by omega,hlt,hsub.trans s78,S2,h.o [0,1,2,3,7] 8⟩,by dsimp only; omega⟩
 ·intro Jn2 hJ2;have hll:=qxe S.R.ok S.R.ser (by omega);refine q2x S.R.ok S.R.ser (by omega) (h.o [0,2,1,3,4] 5) fun a8 c8 H8 h=>⟨_,_,_,rfl,?_⟩
  refine q2x S.R.ok S.R.ser (by omega) (h.o [1,3,0,2,4,5] 6) fun a9 c9 H9 h=>⟨_,_,_,rfl,?_⟩
  refine⟨_,q7v (h.sl_rd 3 rfl) (h.sl_rd 0 rfl) (by omega),fun _=>?_,fun hf=>absurd (by simp) hf⟩
  refine q2x S.R.ok S.R.ser (by omega) (h.o [1,5,2] 7) fun a11 c11 H11 h=>⟨_,_,_,rfl,?_⟩
  refine q2x S.R.ok S.R.ser (by omega) (h.o [1,3,0] 4) fun a12 c12 H12 h=>⟨_,_,_,rfl,?_⟩
  exact⟨_,q7v (h.sl_rd 3 rfl) (h.sl_rd 0 rfl) (by omega),hJ2 _ _ ⟨by simp,qhi szq (h.o [1] 4)⟩⟩
end
end Go.Proofs.YtfmkddccnjidmaaGreatDoor
