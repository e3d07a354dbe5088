/-
  Lemmas for GateQuiet: part 10 of what it rests on. Conditions: none.
-/
import Derived.Test.YtaaieblnikcndaaGreatDoorGC9
set_option linter.unusedVariables false
set_option linter.unusedSimpArgs false
set_option maxRecDepth 100000
set_option maxHeartbeats 16000000
open Go.IntKind (i64 u64 i8 u8 i32 u32 i16 u16)
namespace Go.Proofs.YtaaieblnikcndaaGreatDoor
open Go
def kepN(s:aI):Nat->List Ou
 | 0=>[]
 | n+1=>kepN s n++[kX (s.sunk+(n:Nat)) (s.kept.getD n Ot.z)]
def recT(s:aI)(rs:List Rp):Nat->List Ou
 | 0=>kepN s s.kept.length
 | n+1=>recT s rs n++(match rs[n]? with|some r=>(bN (dI s (rs.take n)) r).2.1.flatMap di|none=>[])
section
variable {F L:List aE}{H:aC}{K:KE}{Q:aE}
theorem stA_perm{sb:Nat}{s:aI}(R:Rch s)(h:aA H (stA Q sb (jD s)::F)):aA H (stA Q sb s::F):=by
 obtain⟨p,h⟩:=cW.1 h;have a:=uG R;have e1:Ma.mapF p.mm (jD s).ms.m=Ma.mapF p.mm s.ms.m:=ns a.1.symm;have e2:cz p.hm (jD s).cm=cz p.hm s.cm:=ns a.2.symm;rw[e1,e2]at h;exact cW.2 ⟨p,h⟩
theorem xH(s:aI):∀n,(kepN s n).length=n
 | 0=>rfl
 | n+1=>by rw[kepN,UZ,xH s n];rfl
theorem Rec_spec{c:bG}{s0:aI}{rs:List Rp}{s:List Ry}{v:Fy}{has:Bool}{P:KQ}{W:Nat}(Y:fC c=true)(A:Rch s0)(hc0:s0.cfg=c)
  (y3:has=false/\s0=bS c\/has=true/\v.bs=stB s0) (j3:s.map Ry.rc=rs.map λr=>⟨r.kind,r.bytes⟩) (hv:∀r∈rs,∀e∈r.evs,aF e.value)
  (u8:∀j (hj:j<rs.length),(bN (dI s0 (rs.take j)) rs[j]).2.2=0) (hk0:s0.kept.length<=40000) (hk:∀j,j<=rs.length->(dI s0 (rs.take j)).kept.length<=1000000) (hrl:rs.length<=100000)
  (hq:∀H,aA H F->aP H P (flat fT s)) (hqd:∀H,aA H F->∀q∈s,aP H q.y.a (q.y.bs.map U8)) (hfy:∀H,aA H F->aP H v.a (v.bs.map U8)) (hfa:v.a=none\/∃k o,v.a=some ⟨k,o,none⟩)
  (h:aA H (Q::F))
  (k:∀Q' sb ys a c' L,aM Q Q'->ys.map Oy.o=recT s0 rs rs.length->(∀y∈ys,gh Q' y)->aA L (Q'::slA 91 11 a ys.length c' (flat bH ys)::stA Q' sb (dI s0 rs)::F)->K (.tuple #[PA sb 0,.slice a ys.length c',aD 0]) L) :
  CF 46 #[.agg ⟨ol c⟩,.agg #[dY v,.bool has,.slice P s.length W]] H K:=by
 have hql:s.length=rs.length:=by have:=congrArg List.length j3;simpa using this
 refine cN 46 0x1121749d1215612399251442156123992511d1d44c [[(9,sS),(54,sI)],[(9,sS),(36,sI)],[(7,sP),(8,sI)]] ?_;refine h.al λb _ h=>?_
 refine h.al λb1 _ h=>⟨_,_,_,_,_,_,_,_,_,h.q 1,?_⟩
 refine Kk (Q:=Q) h (λhn=>UY hn (by rw[Y];simp)) λ_ sb H1 h=>⟨some ⟨sb,0,none⟩,_,rfl,_,h.r 1,?_⟩
 intro Jn hJ;have fin:∀(Q1:aE) (sb:Nat) L,aM Q Q1->aA L (Q1::stA Q1 sb s0::cellsA b1 [dY v,.bool has,.slice P s.length W] 129::F)->Jn (some ⟨sb,0,none⟩) 0 L:=by
  intro Q1 sb H2 hs1 h;refine hJ _ _ _ ⟨λhc=>UY hc (by decide),λ_=>?_⟩
  refine Tt (by omega) (h.o [1,0,2] 3) λka kc H3 h=>⟨_,_,_,rfl,?_⟩
  refine⟨λla ln lc i L=>∃(j:Nat) (ys:List Oy) (Q':aE),i=j/\j<=s0.kept.length/\ln=ys.length/\aM Q Q'/\ys.map Oy.o=kepN s0 j/\(∀y∈ys,gh Q' y)/\
    aA L (Q'::slA 91 11 la ys.length lc (flat bH ys)::slA 164 74 ka s0.kept.length kc (flat cI s0.kept)::stA Q' sb s0::cellsA b1 [dY v,.bool has,.slice P s.length W] 129::F),
   λ_ _ _ i _=>s0.kept.length-i.toNat,⟨0,[],Q1,rfl,by omega,rfl,hs1,rfl,λy S=>UY S (by simp),(h.sl_nil 91 11).o [3,0,1,2,4] 5⟩,?_⟩
  rintro la ln lc i H4 ⟨j,ys,O,rfl,hj,rfl,h9,hm,l0,h⟩;have hyl:ys.length=j:=by rw[<-xH s0 j,<-hm,Vl]
  refine⟨λd=>?_,λd=>?_⟩
  .have d:j<s0.kept.length:=by have:=Va d;omega
   have hw:i64.wrap ((j:Int)+1)=((j+1:Nat):Int):=by rw[aJ];omega
   have U:=h.sl_rd 2 rfl;have hsk:=A.sunk;have hsk0:=A.ok.sunk;have h3:=A.kept _ (Vk d);refine⟨by omega,_,_,U.some iT (by omega) d,_,_,_,_,_,_,_,_,_,_,U.els iT d,?_⟩;refine h.al λb3 _ h=>?_
   refine h.sta 0 rfl rfl λH5 h=>?_
   have h:aA H5 (cellsA b3 (cI s0.kept[j]) 164::O::slA 91 11 la ys.length lc (flat bH ys)::slA 164 74 ka s0.kept.length kc (flat cI s0.kept)::stA O sb s0::cellsA b1 [dY v,.bool has,.slice P s.length W] 129::F):=h;refine⟨_,Ts (h.o [4,0,1,2,3,5] 6),_,_,_,_,_,_,_,_,_,_,h.rda 0 rfl,?_⟩;have hn:i64.wrap (s0.sunk+(j:Int))=s0.sunk+(j:Int):=aJ;refine Kp (n:=i64.wrap (s0.sunk+(j:Int))) (o:=s0.kept[j]) h3.wc (by have:=h3.size;omega) h λR N H6 h=>⟨_,_,_,_,_,_,_,_,_,_,_,_,_,rfl,?_⟩
   refine h.al λb4 _ h=>?_
   refine h.append (m:=1) (ws:=bH ⟨kX (i64.wrap (s0.sunk+(j:Int))) s0.kept[j],R,N⟩) slOy 4 rfl (h.ce_rd 0 rfl) rfl (pq _) (by omega) (by omega) λa5 c5 H9 h=>⟨_,_,_,rfl,?_⟩
   have f1:flat bH ys++bH ⟨kX (i64.wrap (s0.sunk+(j:Int))) s0.kept[j],R,N⟩=flat bH (ys++[⟨kX (i64.wrap (s0.sunk+(j:Int))) s0.kept[j],R,N⟩]):=by rw[dT];simp[flat]
   have f2:ys.length+1=(ys++[(⟨kX (i64.wrap (s0.sunk+(j:Int))) s0.kept[j],R,N⟩:Oy)]).length:=by simp
   have h:=h.o [1,3,4,5,6,7] 8;rw[f1,f2]at h;have h4:gh (slA 5 1 R (cC (pw s0.kept[j])).length N ((cC (pw s0.kept[j])).map U8)*O) ⟨kX (i64.wrap (s0.sunk+(j:Int))) s0.kept[j],R,N⟩:=⟨KIn.sl (c:=N),h.sl_nc 0 rfl⟩;have h:=px.2 h;generalize slA 5 1 R (cC (pw s0.kept[j])).length N ((cC (pw s0.kept[j])).map U8)=M at h h4;have E:aM O (M*O):=aM.add M O;have h:=sq E (h.o [3,0,1,2,4] 5);refine⟨⟨j+1,ys++[(⟨kX (i64.wrap (s0.sunk+(j:Int))) s0.kept[j],R,N⟩:Oy)],M*O,hw,d,f2,h9.trans E,?_,λz hz=>?_,?_⟩,by rw[hw];dsimp only;omega⟩
   rotate_left 2
   .exact h.o [1,2,3,0,4] 5
   .rw [Vv,hm,kepN,hn,WN,List.getElem?_eq_getElem d];rfl
   .rcases Vz.1 hz with hz|hz
    .exact (l0 z hz).sub E
    .rw [Vo]at hz;rw[hz];exact h4
  have hge:j=s0.kept.length:=by have:=Vb d;omega
  rw[hge]at hm hyl;refine⟨_,_,_,h.r 4,?_⟩;refine⟨λla ln lc i L=>∃(j:Nat) (w:List Oy) (Q':aE),i=j/\j<=rs.length/\ln=w.length/\w.length<=100000+2000*j/\aM Q Q'/\w.map Oy.o=recT s0 rs j/\(∀y∈w,gh Q' y)/\Rch (dI s0 (rs.take j))/\
    aA L (Q'::slA 91 11 la w.length lc (flat bH w)::stA Q' sb (dI s0 (rs.take j))::cellsA b1 [dY v,.bool has,.slice P s.length W] 129::F),
   λ_ _ _ i _=>rs.length-i.toNat,⟨0,ys,O,rfl,by omega,rfl,by omega,h9,hm,l0,A,h.o [0,1,3,4] 5⟩,?_⟩
  rintro h7 ln2 h1 i2 H5 ⟨f,w,Q3,rfl,hj2,rfl,hzl,y2,r9,h8,Rj,h⟩;refine⟨λd=>?_,λd=>?_⟩
  .have x:f<s.length:=by have:=Va d;omega
   have d:f<rs.length:=by omega
   have hw:i64.wrap ((f:Int)+1)=((f+1:Nat):Int):=by rw[aJ];omega
   have r0:s[f].rc=⟨rs[f].kind,rs[f].bytes⟩:=by
    have:=congrArg (λl=>l[f]?) j3
    simpa[List.getElem?_map,List.getElem?_eq_getElem d,List.getElem?_eq_getElem x] using this
   have r8:s[f].kind=rs[f].kind:=congrArg Rc.kind r0;have u:s[f].y.bs=rs[f].bytes:=congrArg Rc.data r0;have U:=hq _ h.tl.tl.tl.tl;refine⟨by omega,_,_,U.some oT (by omega) x,_,_,_,_,U.els oT x,?_⟩;have hR:=su (u8 f d);have D:=hv _ (Vk d);have hkj:=hk f hj2;have hE:=B4 (r:=rs[f]) Rj D;have hA:=u8 f d;have hqm:s[f]∈s:=Vk x;have hbl:=Rp.bytes_len rs[f];have I:(bN (dI s0 (rs.take f)) rs[f]).2.1.length<=2000:=B2 Rj.ok (by have:=Rp.right_len hR;omega);have V:dI s0 (rs.take (f+1))=(bN (dI s0 (rs.take f)) rs[f]).1:=by rw[VE d,U3]
   have Z:recT s0 rs (f+1)=recT s0 rs f++(bN (dI s0 (rs.take f)) rs[f]).2.1.flatMap di:=by rw[recT,List.getElem?_eq_getElem d]
   refine h.al λb6 _ h=>?_
   refine h.st 0 rfl rfl λH6 h=>⟨_,_,_,h.r 0,?_⟩
   have h:aA H6 (cellsA b6 [aD s[f].kind,.slice s[f].y.a s[f].y.bs.length s[f].y.c] 234::Q3::slA 91 11 h7 w.length h1 (flat bH w)::stA Q3 sb (dI s0 (rs.take f))::cellsA b1 [dY v,.bool has,.slice P s.length W] 129::F):=h;have h:=h.o [1,0,2,3,4] 5;have hbb:aH s[f].y.bs:=by rw[u];exact Rp.bytes_by _
   refine S0 h (λH h=>hqd H h.tl.tl.tl.tl.tl _ hqm) hbb (by rw[u];omega) ?_
   rw[u,rec_back hR D];obtain⟨r,U⟩:∃r,rs[f]=r:=⟨_,rfl⟩;rw[U]at hR D hE hA I V Z r8 ⊢;intro Q4 evs ea ec H7 T l6 hkl h;refine⟨_,_,_,_,_,_,_,_,_,_,_,_,_,_,_,rfl,?_⟩;refine h.al λb7 _ h=>?_
   refine h.st 0 rfl rfl λH8 h=>⟨_,λ_=>h.r 0,_,λ_=>h.r 3,λhx=>?_,λ_=>?_⟩
   .exfalso;rw[r8]at hx;simp at hx
   have h:aA H8 (cellsA b7 (df r ea ec) 61::Q4::slA 99 4 ea evs.length ec (flat cw evs)::cellsA b6 [aD s[f].kind,.slice s[f].y.a r.bytes.length s[f].y.c] 234::slA 91 11 h7 w.length h1 (flat bH w)::stA Q3 sb (dI s0 (rs.take f))::cellsA b1 [dY v,.bool has,.slice P s.length W] 129::F):=h;refine⟨_,_,_,_,_,_,_,_,_,_,_,_,_,_,h.q 0,?_⟩;have h:=sq T (h.o [5,1,0,2,3,4,6] 7);have h:=h.o [1,0,3,2,4,5,6] 7;have hell:evs.length<=64:=by have:=Rp.right_len hR;rw[l6,Vl]at this;exact this
   have h0:∀G:List aE,om Q4 (slA 99 4 ea evs.length ec (flat cw evs)::G) r ea evs:=λG=>⟨l6,λH h=>h.sl_rd 0 rfl,hkl,by omega,D⟩
   refine Ke Rj.ok (by have:=Rj.sunk;omega) (by omega) (h0 _) h λQ5 fa fc H9 l5 h=>⟨_,_,_,_,rfl,λhx=>?_,λ_=>?_⟩
   .exfalso;rw[hA]at hx;simp at hx
   obtain⟨t,hf⟩:∃t,(bN (dI s0 (rs.take f)) r).2.1=t:=⟨_,rfl⟩;rw[hf]at h hE I Z ⊢;refine Kq hE.2 hE.1 h (λH h=>h.sl_rd 0 rfl) λQ6 J wa wc H10 C j1 hwi h=>⟨_,_,_,rfl,?_⟩
   have hwl:J.length<=t.length:=by
    have e1:J.length=(t.flatMap di).length:=by rw[<-j1,Vl]
    have:∀l:List cu,(l.flatMap di).length<=l.length:=by
     intro l
     induction l with
     | nil=>simp
     | cons e l ih=>
      rw[V6,UZ,Vf];have:(di e).length<=1:=by unfold di;split <;> (try split) <;> (try split) <;> (try split) <;> simp
      omega
    have:=this t;omega
   refine h.append (m:=J.length) (ws:=flat bH J) slOy 7 rfl (h.sl_rd 1 rfl) (eZ ja _) (l8 pq _) (by omega) (by omega) λpa pc H11 h=>⟨_,_,_,rfl,?_⟩
   have e2:w.length+J.length=(w++J).length:=by rw[UZ]
   have h:=h.o [3,0,7,8] 9;rw[e2,<-dT]at h;have h:=sq C h;refine⟨⟨f+1,w++J,Q6,hw,d,e2,by rw[UZ];omega,((y2.trans T).trans l5).trans C,by rw[Vv,r9,j1,Z],λy S=>?_,by rw[V];exact uH Rj D,?_⟩,by rw[hw];dsimp only;omega⟩
   .rcases Vz.1 S with S|S
    .exact (h8 y S).sub ((T.trans l5).trans C)
    .exact hwi y S
   .rw [V];exact h.o [1,2,0,3] 4
  .have h5:f=rs.length:=by have:=Vb d;omega
   subst h5;rw[V8]at h;exact k Q3 sb w _ _ _ y2 r9 h8 (h.o [0,1,2] 4)
 refine⟨λhb=>?_,λhb=>?_⟩
 .have u:v.bs=stB s0:=by
   rcases y3 with ⟨e,_⟩|⟨_,e⟩
   .rw [e]at hb;cases hb
   .exact e
  refine⟨_,_,_,_,_,_,_,_,_,h.q 2,_,_,_,h.r 1,?_⟩;have h6:kE c v.bs=.ok (jD s0):=by
   have:=Uu A (by omega);rw[hc0]at this;rw[u];exact this
  have h2:pA c v.bs=.ok (jD s0):=by
   unfold pA;rw[UW (by rw[Y];simp),h6];dsimp only;rw[u,UX (U1 A)]
  have hll:=xE A.ok A.ser (by omega);have h:=h.o [3,0,1,2] 4;refine Uk (c:=c) h (λH h=>hfy H h.tl.tl.tl) hfa (by rw[u];exact xv _) (by rw[u];omega) (λ_ s' B=>?_) (λhR=>UY hR (by rw[Y];simp)) (λ_ e he=>by rw[h2]at he;cases he) λ_ s' B=>?_
  .rw [h6]at B
   cases B
   exact⟨⟨λp hp=>(A.ser).cm p ((uG A).2.mem_iff.2 hp),A.ser.kept⟩,by show s0.kept.length<=_;omega⟩
  rw[h2]at B
  cases B
  intro Q6 tb H6 C h;refine⟨_,_,rfl,?_⟩;have h:=stA_perm A (h.o [1,0,3] 5);exact fin Q6 tb _ C (h.o [1,0,2] 3)
 .have hs0:s0=bS c:=by
   rcases y3 with ⟨_,e⟩|⟨e,_⟩
   .exact e
   .rw [e]at hb;cases hb
  rw[<-hs0]at h;exact fin Q sb _ (aM.refl Q) (h.o [3,0,1] 4)
end
def eX:Rp:=⟨1,0,0,0,0,0,0,bP.z,[]⟩
def mW(o:Opt)(s:aI)(rows:DR):Gg:=
 ⟨o,(bN s eX).1,⟨(bN s eX).1.boots,o.probes,0,[],[]⟩,[],0,false,0,0,{ dm rows (opS o.segment rows) ⟨1,eX.bytes⟩ with syn:=(dm rows (opS o.segment rows) ⟨1,eX.bytes⟩).next },
  fV rows (opS o.segment rows) ⟨1,eX.bytes⟩,(fV rows (opS o.segment rows) ⟨1,eX.bytes⟩).length⟩
theorem rch_run{s:aI}(R:Rch s):∀{rs:List Rp},(∀r∈rs,∀e∈r.evs,aF e.value)->Rch (dI s rs):=by
 intro rs
 induction rs generalizing s with
 | nil=>intro _;exact R
 | cons r rs ih=>intro h;exact ih (uH R (h r (Vn ..))) λx a=>h x (Vq _ a)
section
variable {F L:List aE}{H:aC}{K:KE}{Q:aE}{o:Opt}{db:Nat}{rows:DR}{syn:Nat}
theorem UG{s0:aI}{rs:List Rp}(f:fg o=true)(ok:fU rows)(hB:rows.length<=549755813888)(C:ft o.segment rows=0)(w:(opS o.segment rows).seg<2147483647)(N:(opS o.segment rows).ok)
  (R0:Rch s0) (P:s0.cfg=o.cfg) (i:dw (dv rows)=(none,rs.map λr=>⟨r.kind,r.bytes⟩)/\s0=bS o.cfg\/dw (dv rows)=(some (stB s0),rs.map λr=>⟨r.kind,r.bytes⟩))
  (hv:∀r∈rs,∀e∈r.evs,aF e.value) (U:∀j (hj:j<rs.length),(bN (dI s0 (rs.take j)) rs[j]).2.2=0) (S:s0.kept.length<=40000) (hk:∀j,j<=rs.length->(dI s0 (rs.take j)).kept.length<=1000000) (G:rs.length<=100000)
  (u:(bN (dI s0 rs) eX).2.2=0) (t:1<=(bN (dI s0 rs) eX).1.boots/\(bN (dI s0 rs) eX).1.boots<=1099511627776)
  (h:aA H (Q::diskX db rows syn::F))
  (k:∀Q' gb ys a c H',aM Q Q'->ys.map Oy.o=recT s0 rs rs.length->(∀y∈ys,gh Q' y)->aA H' (Q'::slA 91 11 a ys.length c (flat bH ys)::gateA Q' gb db (mW o (dI s0 rs) rows)::F)->K (.tuple #[PA gb 0,.slice a ys.length c,aD 0]) H'):CF 16 #[PA db 0,.agg ⟨gV o⟩] H K:=by
 refine cM 16 8194785019629852 ?_;have D:fC o.cfg=true:=by
  unfold fg at f;simp only[Vd]at f;exact f.1.1.1.1
 refine h.al λb _ h=>⟨_,_,_,_,_,_,_,_,_,_,_,_,_,h.q 0,?_⟩
 refine Bb (o:=o) h λH1 h=>⟨_,rfl,λm=>?_,λ_=>?_⟩
 .rw [f]at m;cases m
 refine⟨_,h.r 0,?_⟩;have h:=h.o [2,0,1] 3;refine Qj ok (by omega) h (λ_ h1 qs W has a c bb rb H2 n B h=>⟨_,_,_,_,_,_,_,_,_,rfl,?_⟩) λT=>UY C T
 refine h.al λb1 _ h=>?_
 refine h.st 0 rfl rfl λH3 h=>⟨λm=>UY m (by simp),λ_=>⟨_,_,_,_,_,_,_,_,_,h.q 6,_,_,_,_,_,_,_,h.q 0,?_⟩⟩
 have h:=h.o [7,4,3,0,1,2,5,6] 8;have d:=B.tell;have Z:has=false/\s0=bS o.cfg\/has=true/\W.bs=stB s0:=by
  rw[n]at d
  rcases i with ⟨e1,e2⟩|e1
  .rw [e1]at d
   cases has with
   | false=>exact .inl ⟨rfl,e2⟩
   | true=>simp at d
  .rw [e1]at d
   cases has with
   | false=>simp at d
   | true=>exact .inr ⟨rfl,by simpa using (Prod.mk.inj d).1.symm⟩
 have J:qs.map Ry.rc=rs.map λr=>⟨r.kind,r.bytes⟩:=by
  rw[n]at d
  rcases i with ⟨e1,_⟩|e1 <;> rw[e1]at d <;> exact (Prod.mk.inj d).2.symm
 have L:W.a=none\/∃k o,W.a=some ⟨k,o,none⟩:=by
  rcases B.st with rfl|⟨r,hr,rfl⟩
  .exact .inl rfl
  .exact G9 h.tl r hr
 refine Rec_spec D R0 P Z J hv U S hk G (λH h=>h.sl_rd 1 rfl) (λH h q hq=>zK h q (B.sub q hq)) (λH h=>B.rd h) L h λQ1 sb ys oa oc H4 O hm M h=>⟨_,_,_,_,_,rfl,λm=>UY m (by simp),λ_=>?_⟩
 have A:=rch_run R0 hv;have s:=hk rs.length (Vg _);rw[V8]at s;obtain⟨R,E⟩:∃R,dI s0 rs=R:=⟨_,rfl⟩;rw[E]at A s u t k h;refine⟨_,_,_,_,_,_,_,_,_,_,_,_,_,h.q 9,?_⟩;refine h.al λb2 H5 h=>?_
 have h:=h.sl_nil 91 11;have h:=h.o [2,1,4,0,8,9,10,3,11] 12;have C:=B4 (r:=eX) A (λe Y=>UY Y (by simp[eX]))
 refine Kw (r:=eX) (x:=⟨bb,rb,sb,.pointer none,none,0⟩) (o:=o) (recs:=0) (ys:=[]) A.ok (by have:=A.sunk;omega) s (recN rfl) C.1 C.2 N hB w (by omega) (by simp) (λy I=>UY I (by simp)) h (λY=>UY u Y) λ_ Q2 zs pa pc H6 v h2 h0 h=>?_
 refine⟨_,rfl,λm=>UY m (by decide),λ_=>?_⟩
 refine⟨some ⟨bb,0,none⟩,h.r 1,some ⟨rb,0,none⟩,h.r 4,?_⟩;have h:=h.o [5,6,0,1,2,3,4,7,8] 9;refine G2 h λH7 h=>⟨rfl,?_⟩
 refine h.st 3 rfl rfl λH8 h=>?_
 refine h.st 3 rfl rfl λH9 h=>⟨some ⟨sb,0,none⟩,h.r 3,?_⟩
 refine⟨_,xl (h.o [4,0,1,2,3,5,6,7,8] 9),_,h.r 8,?_⟩;have V:1<=o.probes/\o.probes<=1024:=by
  unfold fg at f;simp only[Vd,Vc]at f;exact f.1.1.1.2
 refine Ks h (λT=>UY ⟨t.1,t.2,V⟩ T) λ_ pb h4 h=>⟨_,_,rfl,?_⟩
 refine h.st 4 rfl rfl λh3 h=>?_
 have h:=(h.o [4,5,7,1,2,0,3,8] 10).sl_nil 91 11;have h:=h.o [1,2,0,3,4,5,6,7,8] 9;have hg:=(fP (Q:=Q2) (g:=mW o R rows)).2 ⟨⟨bb,rb,sb,PA pb 0,none,0⟩,pb,[],rfl,rfl,λz hz=>UY hz (by simp),h⟩
 exact k Q2 b2 ys oa oc _ (O.trans v) hm (λy I=>(M y I).sub v) (hg.o [1,2,0] 3)
end
structure I3 where
 a:Int
 e:Int
 n:Int
deriving DecidableEq
structure I2 where
 a:Int
 e:Int
deriving DecidableEq
structure VG where
 v:List (I3×Int)
 g:List (I2×Int)
def VG.vv(x:VG)(k:I3):Int:=(aL k x.v).getD 0
def VG.gg(x:VG)(k:I2):Int:=(aL k x.g).getD 0
def ackOk(x:VG)(a e next:Int):Prop:=∀n:Int,0<=n->n<next->n<10000->x.vv ⟨a,e,n⟩=1
inductive OneE:VG->cu->VG->Prop
 | grant {x e}:e.kind=1->OneE x e { x with g:=mset ⟨e.agent,e.epoch⟩ (x.gg ⟨e.agent,e.epoch⟩+1) x.g }
 | verdict {x e}:e.kind=3->x.vv ⟨e.ida,e.ide,e.seq⟩=0->1<=x.gg ⟨e.ida,e.ide⟩->OneE x e { x with v:=mset ⟨e.ida,e.ide,e.seq⟩ 1 x.v }
 | ack {x e}:e.kind=2->ackOk x e.agent e.epoch e.next->OneE x e x
 | emit {x e}:e.kind=4->OneE x e x
inductive jq:VG->List cu->VG->Prop
 | nil {x}:jq x [] x
 | snoc {x l y e z}:jq x l y->OneE y e z->jq x (l++[e]) z
theorem jq.append{x y z:VG}{a b:List cu}(h:jq x a y)(c:jq y b z):jq x (a++b) z:=by
 induction c with
 | nil=>rw[V4];exact h
 | snoc h3 h4 ih=>rw[<-Vj];exact ih.snoc h4
theorem xI{x:VG}{k a:I3}{v:Int}:({ x with v:=mset k v x.v }:VG).vv a=if a=k then v else x.vv a:=by
 unfold VG.vv;dsimp only;rw[oG]
 split <;> rfl
theorem xJ{x:VG}{k a:I2}{v:Int}:({ x with g:=mset k v x.g }:VG).gg a=if a=k then v else x.gg a:=by
 unfold VG.gg;dsimp only;rw[oG]
 split <;> rfl
structure lS(s:aI)(x:VG)(B:Int):Prop where
 cur:∀a st,dM s a=some st->∀n,x.vv ⟨a,(bg s.rows a).epoch,n⟩=if 0<=n/\n<st.hs.next then 1 else 0
 gr:∀a,0<(bg s.rows a).epoch->1<=x.gg ⟨a,(bg s.rows a).epoch⟩
 new:∀a e n,(bg s.rows a).epoch<e->x.vv ⟨a,e,n⟩=0
 b:∀k,0<=x.gg k/\x.gg k<=B
theorem Md{c:bG}{now a ep first:Int}{evs:List Pv}{j:JS}{x:VG}(d:∀n,x.vv ⟨a,ep,n⟩=if 0<=n/\n<first then 1 else 0)(s:0<=first)(b:1<=x.gg ⟨a,ep⟩):∀n,∃y,jq x (dg c now a ep first evs j n).2 y/\
  y.g=x.g/\(∀m,y.vv ⟨a,ep,m⟩=if 0<=m/\m<first+n then 1 else 0)/\∀k,¬(k.a=a/\k.e=ep)->y.vv k=x.vv k
 | 0=>⟨x,.nil,rfl,by simpa using d,λ_ _=>rfl⟩
 | n+1=>by
  obtain⟨y,t,f,i,u⟩:=Md (c:=c) (now:=now) (evs:=evs) (j:=j) d s b n;refine⟨_,.snoc t (.verdict rfl ?_ ?_),f,λm=>?_,λk h=>?_⟩
  .show y.vv ⟨a,ep,first+n⟩=0;rw[i,nO]
  .show 1<=y.gg ⟨a,ep⟩;unfold VG.gg at b ⊢;rw[f];exact b
  .rw [xI];show (if (⟨a,ep,m⟩:I3)=⟨a,ep,first+n⟩ then (1:Int) else y.vv ⟨a,ep,m⟩)=_
   rw[i]
   by_cases e:m=first+n
   .rw [UX (by rw[e]),pO]
   .rw [UW (by simp[e])]
    by_cases e2:0<=m/\m<first+n
    .rw [UX e2,pO]
    .rw [UW e2,nO]
  .rw [xI,UW,u k h];intro e;exact h (by rw[e];exact⟨rfl,rfl⟩)
theorem Me{a ep:Int}{x:VG}(b:1<=x.gg ⟨a,ep⟩):∀{ks:List Int},ks.Nodup->(∀n∈ks,x.vv ⟨a,ep,n⟩=0)->∃y,jq x (ks.reverse.map (pp a ep)).reverse.reverse y/\
  y.g=x.g/\(∀n,n∉ks->y.vv ⟨a,ep,n⟩=x.vv ⟨a,ep,n⟩)/\∀k,¬(k.a=a/\k.e=ep)->y.vv k=x.vv k
 | [],_,_=>⟨x,.nil,rfl,λ_ _=>rfl,λ_ _=>rfl⟩
 | n::r,hn,h=>by
  rw[Wv]at hn;obtain⟨y,f,d,i,j⟩:=Me b hn.2 λm hm=>h m (Vq _ hm)
  rw[List.reverse_reverse]at f ⊢;rw[List.reverse_cons,Vv];refine⟨_,.snoc f (.verdict rfl ?_ ?_),d,λm hm=>?_,λk c=>?_⟩
  .show y.vv ⟨a,ep,n⟩=0;rw[i n hn.1];exact h n (Vn ..)
  .show 1<=y.gg ⟨a,ep⟩;unfold VG.gg at b ⊢;rw[d];exact b
  .simp only[Vm,not_or]at hm;rw[xI,UW (by show ¬(⟨a,ep,m⟩:I3)=⟨a,ep,n⟩;simp[hm.1]),i m hm.2]
  .rw [xI,UW,j k c];intro e;exact c (by rw[e];exact⟨rfl,rfl⟩)
theorem UH{a ep:Int}{x:VG}(f:1<=x.gg ⟨a,ep⟩){ks:List Int}(d:ks.Nodup)(h:∀n∈ks,x.vv ⟨a,ep,n⟩=0):∃y,jq x (ks.map (pp a ep)) y/\
  y.g=x.g/\∀k,¬(k.a=a/\k.e=ep)->y.vv k=x.vv k:=by
 obtain⟨y,b,c,j,i⟩:=Me (ks:=ks.reverse) f (List.pairwise_reverse.2 (d.imp λh=>h.symm)) λn hm=>h n (List.mem_reverse.1 hm)
 rw[List.reverse_reverse,List.reverse_reverse]at b;exact⟨y,b,c,i⟩
theorem lS.same{s d:aI}{x:VG}{B:Int}(I:lS s x B)(f:d.rows=s.rows)(hs:∀a c,dM d a=some c->∃st,dM s a=some st/\st.hs.next=c.hs.next):lS d x (B+1) where
 cur a c h:=by
  obtain⟨st,j,i⟩:=hs a c h;rw[f,<-i];exact I.cur a st j
 gr a h:=by rw[f]at h ⊢;exact I.gr a h
 new a e n h:=by rw[f]at h;exact I.new a e n h
 b k:=by have:=I.b k;omega
theorem B9{s:aI}{k:Nat}{st:br}{now:Int}{ms:MS}{cm:CM}(b:k<s.sts.length)(a:Int) :
  dM { s with now:=now,ms:=ms,cm:=cm,sts:=s.sts.set k (some st) } a=if a=(k:Int) then some st else dM s a:=by
 unfold dM;dsimp only
 by_cases h0:a<0
 .rw [UX h0,UX h0,nO]
 .rw [UW h0,UW h0]
  by_cases e:a=(k:Int)
  .rw [UX e];have:a.toNat=k:=by omega
   rw[this,List.getElem?_set_self b];rfl
  .rw [UW e,List.getElem?_set_ne (by omega)]
theorem lS.setStr{s:aI}{x:VG}{B:Int}(I:lS s x B){k:Nat}{st b:br}{now:Int}{ms:MS}{cm:CM}(i:s.sts[k]?=some (some st))(h:b.hs.next=st.hs.next) :
  lS { s with now:=now,ms:=ms,cm:=cm,sts:=s.sts.set k (some b) } x (B+1):=by
 have f:k<s.sts.length:=(List.getElem?_eq_some_iff.1 i).1;refine I.same rfl λa d c=>?_
 rw[B9 f]at c
 split at c
 .rename_i e
  cases c
  refine⟨st,?_,h.symm⟩;unfold dM;rw[nO,e];show (s.sts[((k:Int)).toNat]?).join=_;rw[Vi,i];rfl
 .exact⟨d,c,rfl⟩
theorem UI{s:aI}{r:Rp}{x:VG}{B:Int}(ok:cQ s)(I:lS s x B):∃y,jq x (dH s r) y/\lS (iE s r) y (B+1):=by
 unfold dH iE;have d:∀S:aI,S.rows=s.rows->S.sts=s.sts->lS S x (B+1):=λS w A=>I.same w λa V h=>⟨V,by unfold dM at h ⊢;rw[<-A];exact h,rfl⟩
 refine ov (P:=λq=>∃y,jq x q.2.1 y/\lS q.1 y (B+1)) (λ_=>⟨x,.nil,d s rfl rfl⟩) (λ_ _=>⟨x,.nil,d s rfl rfl⟩) (λ_ _ _=>⟨x,.nil,d _ rfl rfl⟩) (λF i D=>?_) (λF i D=>?_) (λF i D=>?_) (λF i D=>?_) (λ_ _ _=>?_) λF i D=>?_
 .
  have t:=iC F;have hg:=xk (most:=s.cfg.agents) ok.rows r.ag r.bt r.nw;unfold fB
  split
  .exact⟨x,.nil,d s rfl rfl⟩
  rename_i Z;have Z:=Decidable.not_not.1 Z
  split
  .rename_i i
   rcases hg with ⟨-,g2,g3,g4,g5⟩|⟨g1,_⟩
   .have J:r.ag.toNat<s.sts.length:=by rw[ok.len];have:=t.ag;omega
    have L:r.ag.toNat<s.rows.length:=by rw[ok.rows.len];have:=t.ag;omega
    have K:((r.ag.toNat:Nat):Int)=r.ag:=by have:=t.ag;omega
    generalize hG:(grant s.cfg.agents s.rows r.ag r.bt r.nw)=G at *;have first:∃y,jq x (jn s r.ag) y/\y.g=x.g/\∀k,¬(k.a=r.ag/\k.e=(bg s.rows r.ag).epoch)->y.vv k=x.vv k:=by
     unfold jn
     cases hs:dM s r.ag with
     | none=>exact⟨x,.nil,rfl,λ_ _=>rfl⟩
     | some st=>
      have f:=(Ko hs).2;have m:=ok.sts st (VA f);have R:=(ok.reg r.ag.toNat).1 ⟨st,f⟩;have M:0<(bg s.rows r.ag).epoch:=by
       obtain⟨e,w,A⟩:=R;unfold bg;rw[UW (by have:=t.ag;omega),w];exact A
      refine UH (I.gr _ M) (Ej m.hs.rows.rising) λn hm=>?_
      rw[I.cur _ _ hs,UW];obtain⟨p,hp,rfl⟩:=Vh.1 hm;have:=(m.hs.rows.inb p hp).1;omega
    obtain⟨y,w,A,H⟩:=first;refine⟨_,w.snoc (.grant rfl),?_⟩;have v:∀a,bg G.1 a=if a=r.ag then G.2.1 else bg s.rows a:=by
     intro a;rw[g2]
     by_cases e:a=r.ag
     .rw [UX e,e,Bw t.ag.1 L]
     .rw [UW e];unfold bg
      by_cases h0:a<0
      .rw [UX h0,UX h0]
      .rw [UW h0,UW h0,List.getElem?_set_ne (by have:=t.ag;omega)]
    refine⟨λa st h n=>?_,λa h=>?_,λa e n h=>?_,λk=>?_⟩
    .dsimp only at h ⊢;rw[v];have N:dM { s with now:=s.now,ms:=s.ms,cm:=s.cm,sts:=s.sts.set r.ag.toNat (some (lP s.cfg)) } a=some st:=h;rw[B9 J,K]at N
     by_cases e:a=r.ag
     .rw [UX e]at N ⊢
      cases N
      show y.vv _=_;rw[H _ (by dsimp only;omega),e,I.new _ _ _ (by omega),UW (by show ¬(0<=n/\n<0);omega)]
     .rw [UW e]at N ⊢;show y.vv _=_;rw[H _ (by dsimp only;omega)];exact I.cur a st N n
    .dsimp only at h ⊢;rw[xJ];rw[v]at h ⊢
     by_cases e:a=r.ag
     .rw [UX e,UX (by rw[e])];have:0<=y.gg ⟨r.ag,G.2.1.epoch⟩:=by unfold VG.gg;rw[A];exact (I.b _).1
      omega
     .rw [UW e]at h ⊢;rw[UW (by intro hh;exact e (congrArg I2.a hh))];unfold VG.gg;rw[A];exact I.gr a h
    .dsimp only at h ⊢;rw[v]at h;show y.vv _=_
     by_cases T:a=r.ag
     .rw [UX T]at h;rw[H _ (by dsimp only;omega),T];exact I.new _ _ _ (by omega)
     .rw [UW T]at h;rw[H _ (by dsimp only;omega)];exact I.new _ _ _ h
    .rw [xJ];have hb:∀k,y.gg k=x.gg k:=λk=>by unfold VG.gg;rw[A]
     rw[hb,hb];have h5:=I.b k;have W:=I.b ⟨r.ag,G.2.1.epoch⟩
     split
     .dsimp only;omega
     .omega
   .rw [g1]at i;cases i
  .rename_i i
   rcases hg with ⟨g1,_⟩|⟨-,g2,g3⟩
   .exact UY g1 i
   .obtain⟨g4,g5⟩:=g3 Z;rw[g2];refine⟨_,jq.snoc (l:=[]) .nil (.grant rfl),?_⟩;refine⟨λa st h n=>I.cur a st h n,λa h=>?_,λa e n h=>I.new a e n h,λk=>?_⟩
    .rw [xJ];have W:=I.gr a h;have h7:=(I.b ⟨r.ag,(grant s.cfg.agents s.rows r.ag r.bt r.nw).2.1.epoch⟩).1
     split
     .dsimp only;omega
     .exact W
    .rw [xJ];have h5:=I.b k;have W:=I.b ⟨r.ag,(grant s.cfg.agents s.rows r.ag r.bt r.nw).2.1.epoch⟩
     split
     .dsimp only;omega
     .omega
 .have t:=iC F;obtain⟨st,f⟩:=kV ok t i (.inl D);unfold mM;rw[f];exact⟨x,.nil,I.setStr f rfl⟩
 .
  have t:=iC F;obtain⟨st,f⟩:=kV ok t i (.inr (.inl D));have m:=ok.sts st (VA f);have K:((r.ag.toNat:Nat):Int)=r.ag:=by have:=t.ag;omega
  have J:r.ag.toNat<s.sts.length:=(List.getElem?_eq_some_iff.1 f).1;have U:dM s r.ag=some st:=by unfold dM;rw[UW (by have:=t.ag;omega),f];rfl
  have C:(bg s.rows r.ag).epoch=r.ep/\0<(bg s.rows r.ag).epoch:=by
   unfold fA at i;rw[nO,nO]at i;unfold sr at i
   split at i
   .simp at i
   .rename_i hh;have T:=t.ep.1 (.inr (.inl D));have:isE s r.ag r.ep=true:=by
     cases e:isE s r.ag r.ep
     .exact UY ⟨by omega,e⟩ hh
     .rfl
    unfold isE at this;rw[Vd]at this;exact⟨Va this.2,Va this.1⟩
  unfold gz;rw[f];dsimp only;have u:(st.hs.offer r.nx r.evs).1.next=st.hs.next+((st.hs.offer r.nx r.evs).2.1.length:Nat)/\0<=st.hs.next:=by
   refine⟨?_,m.hs.next0⟩;unfold HS.offer
   split
   .simp
   .have w:=yF (vs:=r.evs) (n:=r.nx) (s:=(st.hs.rows,0)) (m.hs.rows.weaken (lo':=st.hs.next) (by omega) (V7 _));exact (vK w.rising λp hp=>(w.inb p hp).1).2.1
  have hj:(kA s r st).1.st.hs=(st.hs.offer r.nx r.evs).1:=by
   unfold kA;generalize (st.hs.offer r.nx r.evs)=O;have:∀n,(dg s.cfg r.nw r.ag r.ep st.hs.next O.2.1 ⟨{ st with hs:=O.1 },s.ms,s.cm⟩ n).1.st.hs=O.1:=by
    intro n
    induction n with
    | zero=>rfl
    | succ n ih=>exact (xh s.cfg r.nw r.ag (dg s.cfg r.nw r.ag r.ep st.hs.next O.2.1 ⟨{ st with hs:=O.1 },s.ms,s.cm⟩ n).1.st (dg s.cfg r.nw r.ag r.ep st.hs.next O.2.1 ⟨{ st with hs:=O.1 },s.ms,s.cm⟩ n).1.ms (dg s.cfg r.nw r.ag r.ep st.hs.next O.2.1 ⟨{ st with hs:=O.1 },s.ms,s.cm⟩ n).1.cm (O.2.1.getD n Pv.z)).2.1.trans ih
   exact this _
  have E:=I.cur _ _ U
  rw[C.1]at E;have Q:=I.gr _ C.2;rw[C.1]at Q;obtain⟨y,w,A,H,h4⟩:=Md (c:=s.cfg) (now:=r.nw) (evs:=(st.hs.offer r.nx r.evs).2.1) (j:=⟨{ st with hs:=(st.hs.offer r.nx r.evs).1 },s.ms,s.cm⟩) E u.2 Q (st.hs.offer r.nx r.evs).2.1.length;refine⟨y,w.snoc (.ack rfl ?_),?_⟩
  .intro n n0 n1 n2;dsimp only at n1 ⊢;rw[H,UX (by rw[<-u.1];exact⟨n0,n1⟩)]
  .refine⟨λa Y h n=>?_,λa h=>?_,λa e n h=>?_,λk=>?_⟩
   .rw [B9 J,K]at h;dsimp only
    by_cases e:a=r.ag
    .rw [UX e]at h
     cases h
     rw[e,C.1,H,hj,u.1]
    .rw [UW e]at h;rw[h4 _ (by dsimp only;omega)];exact I.cur a Y h n
   .unfold VG.gg;rw[A];exact I.gr a h
   .dsimp only at h;rw[h4 _ (by
     dsimp only;rintro⟨rfl,rfl⟩;omega)]
    exact I.new a e n h
   .have:=I.b k;unfold VG.gg at this ⊢;rw[A];omega
 .have t:=iC F;obtain⟨st,f⟩:=kV ok t i (.inr (.inr D));unfold lN;rw[f];dsimp only
  split
  .exact⟨x,.nil,d _ rfl rfl⟩
  split
  .exact⟨x,.nil,d _ rfl rfl⟩
  .exact⟨x,.nil,I.setStr f rfl⟩
 .refine⟨x,?_,d _ rfl rfl⟩;show jq x (dR s.next (dr s r.nw) (dr s r.nw).length) x;have:∀n,jq x (dR s.next (dr s r.nw) n) x:=λn=>by
   induction n with
   | zero=>exact .nil
   | succ n ih=>exact ih.snoc (.emit rfl)
  exact this _
 .refine⟨x,.nil,?_⟩;unfold mN
  split
  .exact d _ rfl rfl
  .exact d s rfl rfl
theorem once_new(c:bG):lS (bS c) ⟨[],[]⟩ 0 where
 cur a st h:=by
  unfold dM bS at h;dsimp only at h
  split at h
  .cases h
  .rw [List.getElem?_replicate]at h
   split at h <;> simp at h
 gr a h:=by
  exfalso;unfold bg bS at h;dsimp only at h
  split at h
  .simp [En.z]at h
  .rw [List.getElem?_replicate]at h
   split at h <;> simp[En.z]at h
 new a e n h:=rfl
 b k:=⟨V7 _,V7 _⟩
def jr(s:aI):List Rp->List cu
 | []=>[]
 | r::rs=>dH s r++jr (iE s r) rs
theorem BA(r:Rp):∀(rs:List Rp) (s:aI),jr s (rs++[r])=jr s rs++dH (dI s rs) r
 | [],s=>by simp[jr,dI]
 | x::rs,s=>by
  rw[Wf,jr,BA r rs,jr,Vj];rfl
theorem UJ(s:aI)(rs:List Rp)(r:Rp):dI s (rs++[r])=iE (dI s rs) r:=by
 unfold dI;rw[Wr];rfl
def okE(e:cu):Prop:=(e.kind=1->fx (pu e.agent e.epoch e.boot)=true)/\(e.kind=2->fx (ackF e.agent e.epoch e.next)=true)
structure Hs(c:bG)(n:Nat)(s:aI)(E:List cu):Prop where
 R:RunR s c n
 num:NumI s (emO E)
 once:∃x,jq ⟨[],[]⟩ E x/\∃B,lS s x B
 nums:∀e∈E,e.kind=4->0<=e.number/\(emO E)[e.number.toNat]?=some e.out
 sunk:0<=s.sunk
 boots:s.boots<=n
 rgt:∀e∈E,okE e
 len:E.length<=2000*n
theorem Hs.mono{c:bG}{n m:Nat}{s:aI}{E:List cu}(h:Hs c n s E)(hm:n<=m):Hs c m s E:=
 ⟨⟨h.R.R,h.R.cfg,Vu h.R.kept (W5 _ hm)⟩,h.num,h.once,h.nums,h.sunk,by have:=h.boots;omega,h.rgt,by have:=h.len;omega⟩
theorem Hs.new{c:bG}(b:fC c=true):Hs c 0 (bS c) []:=
 ⟨runR_new (ur b),⟨by simp[bS,emO],by simp[bS,emO]⟩,⟨_,.nil,0,once_new c⟩,λe a=>UY a (by simp),by simp[bS],by simp[bS],λe a=>UY a (by simp),by simp⟩
theorem UK{s:aI}{r:Rp}:(iE s r).boots<=s.boots+1:=by
 refine ov (P:=λq=>q.1.boots<=s.boots+1) (λ_=>?_) (λ_ _=>?_) (λ_ _ _=>?_) (λ_ _ _=>?_) (λ_ _ _=>?_) (λ_ _ _=>?_) (λ_ _ _=>?_) (λ_ _ _=>?_) (λ_ _ _=>?_)
 .dsimp only;omega
 .dsimp only;omega
 .dsimp only;omega
 .unfold fB;split
  .dsimp only;omega
  .split <;> (dsimp only;omega)
 .unfold mM;split <;> (dsimp only;omega)
 .unfold gz;split <;> (dsimp only;omega)
 .unfold lN;split
  .split
   .dsimp only;omega
   .split <;> (dsimp only;omega)
  .dsimp only;omega
 .unfold kB;dsimp only;omega
 .unfold mN;split <;> (dsimp only;omega)
theorem Mf{a ep bt:Int}(b:0<=a/\a<=63)(c:0<=ep/\ep<=1099511627776)(d:0<=bt/\bt<=1099511627776):fx (pu a ep bt)=true:=by
 simp[fx,pu,aU,gR,Fq.nums];omega
theorem rgt_ack{a ep nx:Int}(c:0<=a/\a<=63)(d:0<=ep/\ep<=1099511627776)(b:0<=nx/\nx<=1099511627776):fx (ackF a ep nx)=true:=by
 simp[fx,ackF,aU,gR,Fq.nums,b.2];omega
theorem BB{e:cu}(b:e.kind≠1)(a:e.kind≠2):okE e:=⟨λh=>UY h b,λh=>UY h a⟩
theorem okE_step{s:aI}{r:Rp}(R:Rch s)(A:∀e∈r.evs,aF e.value):∀e∈dH s r,okE e:=by
 have b:=uH R A (r:=r);revert b;unfold dH iE;refine ov (P:=λq=>Rch q.1->∀e∈q.2.1,okE e) (λ_ _ e a=>UY a (by simp)) (λ_ _ _ e a=>UY a (by simp)) (λ_ _ _ _ e a=>UY a (by simp)) (λm f w b=>?_) (λ_ _ _ _ e a=>UY a (by simp)) (λm f w b=>?_) (λ_ _ _ _ e a=>UY a (by simp)) (λ_ _ _ _ e a=>?_) (λ_ _ _ _ e a=>UY a (by simp))
 .have d:=iC m;have x:=xk (most:=s.cfg.agents) R.ok.rows r.ag r.bt r.nw;have c:r.ag.toNat<s.rows.length:=by rw[R.ok.rows.len];have:=d.ag;omega
  revert b;unfold fB
  split
  .intro _ e a;cases a
  rename_i t;have t:=Decidable.not_not.1 t
  split
  .rename_i f;intro b e a
   rcases x with ⟨-,g2,g3,g4,g5⟩|⟨g1,_⟩
   .rcases Vz.1 a with a|a
    .have:=Lz e a;exact BB (by omega) (by omega)
    .rw [Vo]at a;subst a;have e1:=Bw (e:=(grant s.cfg.agents s.rows r.ag r.bt r.nw).2.1) d.ag.1 c;have i:=b.rows r.ag;have j:=b.ok.rows.ep (grant s.cfg.agents s.rows r.ag r.bt r.nw).2.1;dsimp only at i j;rw[g2,e1]at i;rw[g2]at j;have u:=j (List.mem_iff_getElem.2 ⟨r.ag.toNat,by rw[WY];exact c,by rw[List.getElem_set_self]⟩);have B:=i g3;exact⟨λ_=>Mf d.ag (by dsimp only;omega) (by dsimp only;omega),λh=>UY h (show ¬(1:Int)=2 by decide)⟩
   .rw [g1]at f;cases f
  .rename_i f;intro b e a
   rcases x with ⟨g1,_⟩|⟨-,g2,g3⟩
   .exact UY g1 f
   .obtain⟨g4,g5⟩:=g3 t;rw[Vo]at a;subst a;have i:=R.rows r.ag g5;have u:=R.ok.rows.at r.ag;rw[g4];exact⟨λ_=>Mf d.ag (by dsimp only;omega) (by dsimp only;omega),λh=>UY h (show ¬(1:Int)=2 by decide)⟩
 .have d:=iC m;obtain⟨st,k⟩:=kV R.ok d f (.inr (.inl w));have c:r.ag.toNat<s.sts.length:=(List.getElem?_eq_some_iff.1 k).1;revert b;unfold gz;rw[k];intro b e a;dsimp only at a b
  rcases Vz.1 a with a|a
  .have:=Bt _ e a;exact BB (by omega) (by omega)
  .rw [Vo]at a;subst a;have y:(kA s r st).1.st.hs=(st.hs.offer r.nx r.evs).1:=by
    unfold kA;generalize (st.hs.offer r.nx r.evs)=O;have:∀n,(dg s.cfg r.nw r.ag r.ep st.hs.next O.2.1 ⟨{ st with hs:=O.1 },s.ms,s.cm⟩ n).1.st.hs=O.1:=by
     intro n
     induction n with
     | zero=>rfl
     | succ n ih=>exact (xh s.cfg r.nw r.ag (dg s.cfg r.nw r.ag r.ep st.hs.next O.2.1 ⟨{ st with hs:=O.1 },s.ms,s.cm⟩ n).1.st (dg s.cfg r.nw r.ag r.ep st.hs.next O.2.1 ⟨{ st with hs:=O.1 },s.ms,s.cm⟩ n).1.ms (dg s.cfg r.nw r.ag r.ep st.hs.next O.2.1 ⟨{ st with hs:=O.1 },s.ms,s.cm⟩ n).1.cm (O.2.1.getD n Pv.z)).2.1.trans ih
    exact this _
   have hs:=b.ok.sts (kA s r st).1.st (List.mem_iff_getElem.2 ⟨r.ag.toNat,by dsimp only;rw[WY];exact c,by dsimp only;rw[List.getElem_set_self]⟩);have i:=hs.next;have j:=hs.hs.next0;rw[y]at i j;have u:=d.ep.2;exact⟨λh=>UY h (show ¬(2:Int)=1 by decide),λ_=>rgt_ack d.ag u (by dsimp only;omega)⟩
 .obtain⟨q,v,rfl⟩:=VU a;have v:q<(dR s.next (dr s r.nw) (dr s r.nw).length).length:=v;show okE (dR s.next (dr s r.nw) (dr s r.nw).length)[q];rw[xz];exact BB (show (4:Int)≠1 by decide) (show (4:Int)≠2 by decide)
theorem Mg{s:aI}{r:Rp}(ok:cQ s):(dH s r).length<=2000:=by
 cases hR:r.right with
 | false=>
  have:dH s r=[]:=by unfold dH bN;rw[UX hR]
  rw[this];simp
 | true=>exact B2 ok (by have:=Rp.right_len hR;omega)
theorem emO_pre{A B:List cu}(h:A <+: B):emO A <+: emO B:=by
 obtain⟨C,rfl⟩:=h;rw[uD];exact Yk _ _
theorem get_pre{α:Type}{A B:List α}(h:A <+: B){i:Nat}{x:α}(hi:A[i]?=some x):B[i]?=some x:=by
 obtain⟨C,rfl⟩:=h;rw[List.getElem?_append_left (List.getElem?_eq_some_iff.1 hi).1];exact hi
theorem Hs.step{c:bG}{n:Nat}{s:aI}{E:List cu}(h:Hs c n s E){r:Rp}(f:∀e∈r.evs,aF e.value):Hs c (n+1) (iE s r) (E++dH s r):=by
 obtain⟨n1,n2,n3⟩:=num_step (r:=r) h.sunk h.num;obtain⟨x,i,B,I⟩:=h.once;obtain⟨y,j,J⟩:=UI (r:=r) h.R.R.ok I;refine⟨h.R.step f,by rw[uD];exact n2,⟨y,i.append j,_,J⟩,λe a b=>?_,n3,?_,λe a=>?_,by rw[UZ];have:=h.len;have:=Mg (r:=r) h.R.R.ok;omega⟩
 .rcases Vz.1 a with a|a
  .have:=h.nums e a b;exact⟨this.1,get_pre (emO_pre (Yk _ _)) this.2⟩
  .obtain⟨k,d,rfl⟩:=VU a;have e1:=n1 k d b;refine⟨by omega,?_⟩;have e2:dH s r=(dH s r).take k++((dH s r)[k]::(dH s r).drop (k+1)):=by rw[<-VP d,VO]
   have e3:emO (dH s r)=emO ((dH s r).take k)++((dH s r)[k].out::emO ((dH s r).drop (k+1))):=by
    conv=>lhs;rw[e2]
    rw[uD];congr 1;unfold emO;rw[VD,UX (Vs b),V5]
   rw[uD,e3,e1,List.getElem?_append_right (by omega),List.getElem?_append_right (by omega)];rw[show ((((emO E).length:Nat):Int)+((emO ((dH s r).take k)).length:Nat)).toNat-(emO E).length-(emO ((dH s r).take k)).length=0 by omega];rfl
 .have:=UK (s:=s) (r:=r);have:=h.boots;omega
 .rcases Vz.1 a with a|a
  .exact h.rgt e a
  .exact okE_step h.R.R f e a
theorem Hs.run{c:bG}:∀{rs:List Rp} {n:Nat} {s:aI} {E:List cu},Hs c n s E->(∀r∈rs,∀e∈r.evs,aF e.value)->Hs c (n+rs.length) (dI s rs) (E++jr s rs)
 | [],n,s,E,h,_=>by
  rw[jr,V4];exact h
 | r::rs,n,s,E,h,hv=>by
  have:=Hs.run (h.step (hv r (Vn ..))) λx a=>hv x (Vq _ a)
  rw[jr,<-Vj,Vf,show n+(rs.length+1)=n+1+rs.length by omega];exact this
def rcO(r:Rp):Rc:=⟨r.kind,r.bytes⟩
structure Led(c:bG)(n:Nat)(l:List Rc)(s0:aI)(E0:List cu)(rs:List Rp)(m:Nat):Prop where
 h0:Hs c m s0 E0
 len:m+rs.length<=n
 tell:dw l=(none,rs.map rcO)/\s0=bS c/\E0=[]\/dw l=(some (stB s0),rs.map rcO)
 vals:∀r∈rs,∀e∈r.evs,aF e.value
 oks:∀j (hj:j<rs.length),(bN (dI s0 (rs.take j)) rs[j]).2.2=0
def fk(c:bG)(n:Nat)(l:List Rc)(s:aI)(E E0:List cu):Prop:=∃s0 rs m,Led c n l s0 E0 rs m/\s=dI s0 rs/\E=E0++jr s0 rs
theorem fk.hs{c:bG}{n:Nat}{l:List Rc}{s:aI}{E a:List cu}(h:fk c n l s E a):Hs c n s E:=by
 obtain⟨s0,b,m,h,rfl,rfl⟩:=h;exact (h.h0.run h.vals).mono h.len
theorem fk.mono{c:bG}{n a:Nat}{l:List Rc}{s:aI}{E b:List cu}(h:fk c n l s E b)(e:n<=a):fk c a l s E b:=by
 obtain⟨s0,f,m,h,d⟩:=h;exact⟨s0,f,m,⟨h.h0,Vu h.len e,h.tell,h.vals,h.oks⟩,d⟩
theorem fk.same{c:bG}{n:Nat}{l b:List Rc}{s:aI}{E a:List cu}(h:fk c n l s E a)(e:dw l=dw b):fk c n b s E a:=by
 obtain⟨s0,f,m,h,d⟩:=h;exact⟨s0,f,m,⟨h.h0,h.len,by rw[<-e];exact h.tell,h.vals,h.oks⟩,d⟩
theorem fk.pre{c:bG}{n:Nat}{l:List Rc}{s:aI}{E a:List cu}(h:fk c n l s E a):a <+: E:=by
 obtain⟨s0,b,m,h,rfl,rfl⟩:=h;exact Yk _ _
theorem fk.new{c:bG}(b:fC c=true):fk c 0 [] (bS c) [] []:=
 ⟨bS c,[],0,⟨Hs.new b,Vg _,.inl ⟨rfl,rfl,rfl⟩,λr d=>UY d (by simp),λj a=>UY a (by simp)⟩,rfl,rfl⟩
theorem fk.rec{c:bG}{n:Nat}{l:List Rc}{s:aI}{E f:List cu}(h:fk c n l s E f){r:Rp}(v:∀e∈r.evs,aF e.value)(t:(bN s r).2.2=0):fk c (n+1) (l++[rcO r]) (iE s r) (E++dH s r) f:=by
 obtain⟨s0,b,m,h,rfl,rfl⟩:=h;have u:r.kind≠0:=by
  have k:=su t;unfold Rp.right at k;simp only[Vd,Vc]at k;omega
 refine⟨s0,b++[r],m,⟨h.h0,by rw[UZ];have:=h.len;simp only[Vf,Vy];omega,?_,λx a=>?_,λj i=>?_⟩,(UJ _ _ _).symm,by rw[BA,Vj]⟩
 .rw [Ie,UW (show ¬(rcO r).kind=0 from u)]
  rcases h.tell with ⟨t1,t2⟩|t1
  .exact .inl ⟨by rw[t1,Vv];rfl,t2⟩
  .exact .inr (by rw[t1,Vv];rfl)
 .rcases Vz.1 a with a|a
  .exact h.vals x a
  .rw [Vo]at a;subst a;exact v
 .rw [UZ]at i;simp only[Vf,Vy]at i
  rcases V0 j b.length with d|d
  .rw [WL (by omega)];have:=h.oks j d;rw[List.getElem_append_left d];exact this
  .obtain rfl:j=b.length:=by omega
   have e:(b++[r])[b.length]'(by simp)=r:=by simp
   rw[List.take_left,e];exact t
theorem fk.chk{c:bG}{n:Nat}{l:List Rc}{s:aI}{E b:List cu}(h:fk c n l s E b):fk c n (l++[⟨0,stB s⟩]) s E E:=
 ⟨s,[],n,⟨h.hs,Vg _,.inr (by rw[Ie,UX rfl];rfl),λr d=>UY d (by simp),λj a=>UY a (by simp)⟩,rfl,by rw[jr,V4]⟩
theorem Mh(s:aI)(rs:List Rp):∀n,recT s rs n=kepN s s.kept.length++(jr s (rs.take n)).flatMap di
 | 0=>by simp[recT,jr]
 | n+1=>by
  rw[recT,Mh s rs n]
  cases h:rs[n]? with
  | none=>rw[List.take_add_one,h];simp
  | some r=>rw[List.take_add_one,h,Option.toList_some,BA,VW,Vj]
theorem frm_back{f:Fq}(d:f.kind≠5)(c:f.kind≠8)(k:iZ { kind:=f.kind } (aU f.kind) ((aU f.kind).map f.nums)=f)(b:fx f=true):gA (cC f)=.ok f:=by
 have hb:j6 f=aN [f.kind]++nmF f (aU f.kind):=by unfold j6 mF;rw[UW d,UW c,V4]
 have m:(j6 f).length<=100:=by
  have h:=dL [f.kind];have l1:=Jy f (aU f.kind);have lo:=wQ f.kind;rw[hb,UZ];simp only[Vf,Vy]at h;omega
 have hs:(eK (j6 f)).length<=104:=by rw[rO];omega
 have a:=b;unfold fx at a;simp only[Vd,Vc,VL]at a;have e:cC f=eK (j6 f):=by unfold cC;rw[UW (by rw[b];simp),nO]
 unfold gA;rw[e,nO,Gs,UW (by simp)];dsimp only;unfold nK ph;have e2:aN [f.kind]++nmF f (aU f.kind)=aN [f.kind]++(((aU f.kind).flatMap λi=>aN [f.nums i])++[]):=by rw[V4]
 rw[hb,e2,uv (by omega) (by omega)];dsimp only;rw[nO];dsimp only;rw[B1 (λi hi=>by have:=a.1.2 i hi;unfold aF;omega) _ _ (Vg _),V8,VY]
 dsimp only;unfold mH;rw[k,UW d,UW c];unfold endQ;dsimp only;have j:dG ⟨0,([]:List Nat).flatMap (λi=>aN [f.nums i])++[]⟩=⟨0,[]⟩:=rfl
 rw[j,UW (by simp),UX b]
theorem Mi{a e b:Int}(h:fx (dV a e b)=true):gA (cC (dV a e b))=.ok (dV a e b):=frm_back (show (3:Int)≠5 by decide) (show (3:Int)≠8 by decide) rfl h
structure HM where
 v:List (I3×Ou)
 e:List (Int×List Int)
def effI(e:cu):I3:=⟨e.ida,e.ide,e.seq⟩
def verO(e:cu):Ou:={ kind:=2,ida:=e.ida,ide:=e.ide,seq:=e.seq,reason:=e.reason,win:=e.win,lo:=e.gap.lo,hi:=e.gap.hi }
structure HJ(h:HM)(P T:List cu):Prop where
 ver:∀k w,aL k h.v=some w->∃e∈T,e.kind=3/\effI e=k/\w=verO e
 emi:∀n b,aL n h.e=some b->0<=n/\∃o,(emO T)[n.toNat]?=some o/\b=(kX n o).bs
 has:∀e∈P,e.kind=3->∃w,aL (effI e) h.v=some w
theorem hj0:HJ ⟨[],[]⟩ [] []:=⟨λk w h=>by simp[aL]at h,λn b h=>by simp[aL]at h,λe a=>UY a (by simp)⟩
structure GI(g:Gg)(j:Nat)(was:List aI)(Ek E:List cu)(R:DR)(L:LG)(n0:Int)(k:Nat):Prop where
 opt:fg g.o=true
 few:g.o.cfg.cells.toNat<=200
 ti:TI g.o.segment g.rows g.syn g.rl j
 log:jk g.rows g.syn g.rl R L n0 k
 bk:g.saved=true->∃A d B,L=A++(g.seg,⟨0,d⟩)::B/\(∀x∈A,x.1<g.seg)/\g.num=n0+A.length
 all:∀p,k<=p->p<=L.length->∃s E1 E0,fk g.o.cfg j (dv R++(L.take p).map Prod.snd) s E1 E0/\Ek <+: E1/\E1 <+: E/\E0 <+: Ek/\s∈was
 top:∃E0,fk g.o.cfg j (dv R++L.map Prod.snd) g.s E E0/\E0 <+: Ek
 pend:∃E',E=Ek++E'/\g.pend=E'.flatMap di
 last:g.s∈was
 recs:0<=g.recs/\g.recs<=j
 plen:g.pend.length<=2000*j
 prb:jA g.p
 count:g.p.count<=64*j
 boot:g.p.boot=g.s.boots
section
variable {g:Gg}{j:Nat}{was:List aI}{Ek E:List cu}{R:DR}{L:LG}{n0:Int}{k:Nat}
theorem GI.hs(h:GI g j was Ek E R L n0 k):Hs g.o.cfg j g.s E:=by
 obtain⟨b,a,_⟩:=h.top;exact a.hs
theorem GI.ok(h:GI g j was Ek E R L n0 k)(c:j<=200):GgOk g:=by
 have b:=h.hs.R;have a:=h.ti;have i:=a.len;have e:=a.seg;have f:=h.recs;have d:=h.plen;exact⟨b.R,b.few h.few c,a.ok (by omega),by omega,by omega,by omega,by omega,h.prb⟩
theorem GI.mono(h:GI g j was Ek E R L n0 k):GI g (j+1) was Ek E R L n0 k:=by
 obtain⟨c,f,d⟩:=h.top;refine⟨h.opt,h.few,h.ti.mono,h.log,h.bk,λp a b=>?_,⟨c,f.mono (Nat.le_succ _),d⟩,h.pend,h.last,by have:=h.recs;omega,by have:=h.plen;omega,h.prb,by have:=h.count;omega,h.boot⟩
 obtain⟨s,e,c,a1,a2⟩:=h.all p a b;exact⟨s,e,c,a1.mono (Nat.le_succ _),a2⟩
theorem GI.withP(h:GI g j was Ek E R L n0 k){p:Pb}(a:jA p)(b:p.count<=64*j)(c:p.boot=g.p.boot):GI { g with p:=p } j was Ek E R L n0 k:=
 ⟨h.opt,h.few,h.ti,h.log,h.bk,h.all,h.top,h.pend,h.last,h.recs,h.plen,a,b,c.trans h.boot⟩
theorem UL{s:aI}{r:Rp}(a:r.kind≠1):(iE s r).boots=s.boots:=by
 refine ov (P:=λq=>q.1.boots=s.boots) (λ_=>rfl) (λ_ _=>rfl) (λ_ _ h=>UY h a) (λ_ _ _=>?_) (λ_ _ _=>?_) (λ_ _ _=>?_) (λ_ _ _=>?_) (λ_ _ _=>rfl) (λ_ _ _=>?_)
 .unfold fB;split
  .rfl
  .split <;> rfl
 .unfold mM;split <;> rfl
 .unfold gz;split <;> rfl
 .unfold lN;split
  .split
   .rfl
   .split <;> rfl
  .rfl
 .unfold mN;split <;> rfl
theorem outOp_le(l:List cu):(l.flatMap di).length<=l.length:=by
 induction l with
 | nil=>simp
 | cons e l ih=>
  rw[V6,UZ,Vf];have:(di e).length<=1:=by unfold di;split <;> (try split) <;> (try split) <;> (try split) <;> simp
  omega
theorem GI.cmt(h:GI g j was Ek E R L n0 k)(O:j<=200){r:Rp}(C:∀e∈r.evs,aF e.value)(y:r.kind≠1)(u:(cF g r).2=0) :
  ∃m I,GI (cF g r).1 (j+1) (was++[(cF g r).1.s]) Ek m R I n0 k/\(cF g r).1.syn=g.syn/\g.rows.length<(cF g r).1.rows.length:=by
 have n:(bN g.s r).2.2=0:=by
  unfold cF at u
  split at u
  .exact u
  .rename_i D;exact Decidable.not_not.1 D
 have x:(cF g r).1={ g with s:=(bN g.s r).1,pend:=g.pend++(bN g.s r).2.1.flatMap di,recs:=g.recs+1,rl:=dm g.rows g.rl ⟨r.kind,r.bytes⟩,rows:=fV g.rows g.rl ⟨r.kind,r.bytes⟩ }:=by
  unfold cF;rw[UW (by rw[n];decide)]
 have K:=su n;have H:=h.ti.seg;have t:=Ba (rows:=g.rows) (s:=g.rl) (by omega) K;obtain⟨v,t1,t2⟩:=h.top;obtain⟨m,p1,p2⟩:=h.pend;have hb:=Rp.bytes_by r;have N:=Rp.bytes_len r;have f:=h.log.append (r:=⟨r.kind,r.bytes⟩) hb t;have c:fV g.rows g.rl ⟨r.kind,r.bytes⟩=g.rows++(bM ⟨r.kind,r.bytes⟩).map λb=>((dm g.rows g.rl ⟨r.kind,r.bytes⟩).seg,b):=by unfold fV;rw[UW (by rw[t];decide)]
 have M:=qp (zL (r:=⟨r.kind,r.bytes⟩) hb t);have t3:=t1.rec C n;have w:=Mg (r:=r) h.hs.R.R.ok;have J:=outOp_le (dH g.s r);rw[x];refine⟨E++dH g.s r,L++[((dm g.rows g.rl ⟨r.kind,r.bytes⟩).seg,⟨r.kind,r.bytes⟩)],⟨h.opt,h.few,h.ti.append (by omega) hb (by show r.bytes.length<=_;omega),f,λhs=>?_,λp a b=>?_,⟨v,?_,t2⟩,⟨m++dH g.s r,by rw[p1,Vj],?_⟩,WG _ (Vo.2 rfl),?_,?_,h.prb,?_,?_⟩,rfl,?_⟩
 .obtain⟨A,d,B,b1,b2,b3⟩:=h.bk hs;exact⟨A,d,B++[((dm g.rows g.rl ⟨r.kind,r.bytes⟩).seg,⟨r.kind,r.bytes⟩)],by rw[b1];simp,b2,b3⟩
 .rw [UZ]at b;simp only[Vf,Vy]at b
  rcases V0 L.length p with i|i
  .obtain rfl:p=L.length+1:=by omega
   rw[V2 (by simp),Vv,<-Vj];exact⟨_,_,v,t3,by rw[p1,Vj];exact Yk _ _,Wt,t2,WG _ (Vo.2 rfl)⟩
  .rw [WL i];obtain⟨s,G,F,a1,a2,a3,a4,a5⟩:=h.all p a i;exact⟨s,G,F,a1.mono (Nat.le_succ _),a2,a3.trans (Yk _ _),a4,WP _ a5⟩
 .rw [Vv,<-Vj];exact t3
 .show g.pend++_=_;rw[p2,VW]
 .have:=h.recs;dsimp only;omega
 .have:=h.plen;show (g.pend++(dH g.s r).flatMap di).length<=_;rw[UZ];omega
 .have:=h.count;dsimp only;omega
 .exact h.boot.trans (UL y).symm
 .show g.rows.length<(fV g.rows g.rl ⟨r.kind,r.bytes⟩).length;rw[c,UZ,Vl];omega
theorem GI.sync(h:GI g j was Ek E R L n0 k)(I:j<=200):∃D H u F,GI (je g) (j+3) [g.s] E E D H u F/\(je g).s=g.s/\(je g).o=g.o/\(je g).pend=[]:=by
 obtain⟨f,t1,t2⟩:=h.top;obtain⟨J,p1,p2⟩:=h.pend;have e:f <+: E:=t1.pre;obtain⟨R1,c,m0,l1,l2,l3⟩:∃R1 c m0,jk (gj g) (gj g).length { g.rl with syn:=g.rl.next } R1 c m0 c.length/\(g.saved=true->∃A d B,c=A++(g.seg,⟨0,d⟩)::B/\(∀x∈A,x.1<g.seg)/\g.num=m0+A.length)/\
   fk g.o.cfg j (dv R1++c.map Prod.snd) g.s E f:=by
  unfold gj
  split
  .rename_i n;obtain⟨A,d,B,b1,b2,b3⟩:=h.bk n.1;have w:=h.log.sync;rw[b1]at w;refine⟨[],(g.seg,⟨0,d⟩)::B,n0+A.length,w.trim rfl b2,λ_=>⟨[],d,B,rfl,λx t=>UY t (by simp),by rw[b3];simp⟩,?_⟩
   refine t1.same ?_;rw[b1,Vv,V5,<-Vj,Qq _ rfl,show dv []=[] from wt.2.1,VB]
  .exact⟨R,L,n0,h.log.sync,h.bk,t1⟩
 have m:TI g.o.segment (gj g) (gj g).length { g.rl with syn:=g.rl.next } (j+2):=by
  unfold gj
  split
  .exact h.ti.sync.drop g.seg
  .exact h.ti.sync.mono
 have y:=h.recs;have v:=h.count;unfold je
 split
 .rename_i n;have i:(⟨0,stB g.s⟩:Rc).ok:=⟨V7 0,by show (0:Int)<=255;decide,n.2,xv _⟩;have l4:=l1.push (g:=g.rl.seg+1) (by dsimp only;omega) i;have C:=l3.chk;refine⟨R1,_,m0,c.length,⟨h.opt,h.few,m.save (by omega) i n.2,l4,λ_=>⟨c,stB g.s,[],rfl,λx t=>?_,l1.next⟩,λp a b=>?_,⟨E,?_,Wt⟩,⟨[],by simp,rfl⟩,Vo.2 rfl,?_,by simp,h.prb,?_,h.boot⟩,rfl,rfl,rfl⟩
  .have:=l1.seg x t;dsimp only at this ⊢;omega
  .rw [UZ]at b;simp only[Vf,Vy]at b
   rcases V0 c.length p with G|G
   .obtain rfl:p=c.length+1:=by omega
    rw[V2 (by simp),Vv,<-Vj];exact⟨_,_,E,C.mono (by omega),Wt,Wt,Wt,Vo.2 rfl⟩
   .obtain rfl:p=c.length:=by omega
    rw[List.take_left];exact⟨_,_,f,l3.mono (by omega),Wt,Wt,e,Vo.2 rfl⟩
  .rw [Vv,<-Vj];exact C.mono (by omega)
  .dsimp only;omega
  .dsimp only;omega
 .refine⟨R1,c,m0,c.length,⟨h.opt,h.few,m.mono,l1,l2,λp a b=>?_,⟨f,l3.mono (by omega),e⟩,⟨[],by simp,rfl⟩,Vo.2 rfl,?_,by simp,h.prb,?_,h.boot⟩,rfl,rfl,rfl⟩
  .obtain rfl:p=c.length:=by omega
   rw[V8];exact⟨_,_,f,l3.mono (by omega),Wt,Wt,e,Vo.2 rfl⟩
  .dsimp only;omega
  .dsimp only;omega
theorem GI.crash(h:GI g j was Ek E R L n0 k)(d:j<=200)(keep:Int):∃s a b,fk g.o.cfg j (dv (fF g.rows g.syn keep)) s a b/\Ek <+: a/\a <+: E/\b <+: Ek/\s∈was/\
  TI g.o.segment (fF g.rows g.syn keep) (fF g.rows g.syn keep).length (opS g.o.segment (fF g.rows g.syn keep)) (j+1)/\ft g.o.segment (fF g.rows g.syn keep)=0:=by
 obtain⟨p,p1,p2,p3⟩:=h.log.cut keep;obtain⟨s,a,b,a1,a2,a3,a4,a5⟩:=h.all p p1 p2;have c:=h.ti.crash (by omega) keep;rw[<-p3]at a1;exact⟨s,a,b,a1,a2,a3,a4,a5,c.1,c.2⟩
theorem Mj{s:aI}(h:s.boots<1099511627776):bN s eX=({ s with boots:=s.boots+1 },[],0):=by
 unfold bN;rw[UW (by decide),UW,UX (show eX.kind=1 from rfl)];unfold fA;rw[UX (show eX.kind=1 from rfl),nO];decide
theorem BC{o:Opt}(f:fg o=true)(w:o.cfg.cells.toNat<=200){rows:DR}{s:aI}{i:List cu}(c:fk o.cfg j (dv rows) s E i)(t:TI o.segment rows rows.length (opS o.segment rows) j)(C:j<=200) :
  ∃A,GI (mW o s rows) (j+2) [iE s eX] E E rows A (dv rows).length 1:=by
 have hb:s.boots<1099511627776:=by have:=c.hs.boots;omega
 have n:=Mj hb;have u:(bN s eX).2.2=0:=by rw[n]
 have y:=t.seg;have x:=Ba (rows:=rows) (s:=opS o.segment rows) (by omega) (su u);have d:=Rp.bytes_by eX;have v:=Rp.bytes_len eX;have l1:=((Qp (rows:=rows) o.segment).append (r:=⟨1,eX.bytes⟩) d x).sync;have l2:=c.rec (r:=eX) (λe m=>UY m (by simp[eX])) u
 have m:dH s eX=[]:=by unfold dH;rw[n]
 rw[m,V4]at l2;have D:=c.hs.R.R.ok.boots;have k:1<=o.probes/\o.probes<=1024:=by
  unfold fg at f;simp only[Vd,Vc]at f;exact f.1.1.1.2
 refine⟨[((dm rows (opS o.segment rows) ⟨1,eX.bytes⟩).seg,⟨1,eX.bytes⟩)],⟨f,w,?_,l1,λh=>UY h (by simp[mW]),λp a b=>?_,⟨i,l2.mono (by omega),c.pre⟩,⟨[],by simp,rfl⟩,Vo.2 rfl,?_,by simp[mW],?_,?_,rfl⟩⟩
 .exact (t.append (by omega) d (by show eX.bytes.length<=_;omega)).sync
 .have B:p=1:=by simp only[Vf,Vy]at b;omega
  subst B;exact⟨_,_,i,l2.mono (by omega),Wt,Wt,c.pre,Vo.2 rfl⟩
 .show (0:Int)<=0/\(0:Int)<=_;omega
 .refine⟨by show (0:Int)<=0/\(0:Int)<=1000000000000;omega,k,by simp[mW],by simp[mW],?_⟩;show aF (bN s eX).1.boots;rw[n];unfold aF;dsimp only;omega
 .show (0:Int)<=_;omega
theorem UM(p:Pb)(a e b c:Int):(fD p a e b c).2.2.boot=p.boot/\(fD p a e b c).2.2.count=p.count:=by
 unfold fD
 split
 .exact⟨rfl,rfl⟩
 .split
  .exact⟨rfl,rfl⟩
  .split
   .exact⟨rfl,rfl⟩
   .split <;> exact⟨rfl,rfl⟩
theorem BE(f:Fq)(a n x:Int):(jc f a n x).kind≠1/\((jc f a n x).evs=f.evs\/(jc f a n x).evs=[]):=by
 unfold jc
 split
 .exact⟨show (2:Int)≠1 by decide,.inr rfl⟩
 split
 .exact⟨show (3:Int)≠1 by decide,.inr rfl⟩
 split
 .exact⟨show (4:Int)≠1 by decide,.inl rfl⟩
 .exact⟨show (5:Int)≠1 by decide,.inr rfl⟩
theorem sF{α:Type}{s:RS}{v:α}{e:Int}(h:okR s v=.error e):e≠0:=by
 unfold okR at h
 split at h
 .rename_i a;cases h;exact a
 .cases h
theorem numR_err{s:RS}{e:Int}(h:eA s=.error e):e≠0:=sF h
theorem Mk:∀{n:Nat} {s:RS} {e:Int},iY n s=.error e->e≠0
 | 0,_,_,h=>by cases h
 | n+1,s,e,h=>by
  unfold iY at h
  split at h
  .rename_i a;cases h;exact Mk a
  .split at h
   .rename_i b;cases h;exact sF b
   .cases h
theorem Ml:∀{n:Nat} {s:RS} {e:Int},j7 n s=.error e->e≠0
 | 0,_,_,h=>by cases h
 | n+1,s,e,h=>by
  unfold j7 at h
  split at h
  .rename_i a;cases h;exact Ml a
  .split at h
   .rename_i b;cases h;exact sF b
   .cases h
theorem endQ_err{x:Except Int (Fq×RS)}(a:∀e,x=.error e->e≠0){e:Int}(h:endQ x=.error e):e≠0:=by
 unfold endQ at h
 split at h
 .cases h;exact a _ rfl
 split at h
 .cases h;assumption
 split at h
 .cases h
 .cases h;decide
theorem decQ_err{bs:List Int}{e:Int}(h:gA bs=.error e):e≠0:=by
 unfold gA at h
 split at h
 .cases h;decide
 split at h
 .cases h;assumption
 unfold nK at h
 split at h
 .rename_i a
  cases h
  unfold ph at a
  split at a
  .rename_i c;cases a;exact numR_err c
  .split at a
   .cases a;decide
   .cases a
 split at h
 .rename_i a;cases h;exact Mk a
 refine endQ_err (λe b=>?_) h
 unfold mH at b
 split at b
 .split at b
  .rename_i a
   cases b
   unfold mG at a
   split at a
   .rename_i c;cases a;exact sF c
   .exact Ml a
  .cases b
 split at b
 .split at b
  .rename_i a;cases b;exact sF a
  .exact sF b
 .cases b
def sG(g:Gg)(x:Gg×Int):Prop:=∃p,jA p/\p.boot=g.p.boot/\p.count=g.p.count/\((x.1={ g with p:=p }/\x.2≠0)\/∃r:Rp,x=cF { g with p:=p } r/\r.kind≠1/\∀e∈r.evs,aF e.value)
theorem Mm(c:jA g.p)(a n:Int)(bs:List Int):sG g (jd g a n bs):=by
 unfold jd
 cases hd:gA bs with
 | error e=>exact⟨g.p,c,rfl,rfl,.inl ⟨rfl,decQ_err hd⟩⟩
 | ok f=>
  have d:=Mc hd;have key:∀x,∀e∈(jc f a n x).evs,aF e.value:=λx e b=>by
   rcases (BE f a n x).2 with h|h
   .rw [h]at b;exact d e b
   .rw [h]at b;cases b
  show sG g (lR g f a n);unfold lR
  split
  .exact⟨g.p,c,rfl,rfl,.inl ⟨rfl,show (16:Int)≠0 by decide⟩⟩
  split
  .exact⟨g.p,c,rfl,rfl,.inl ⟨rfl,show (10:Int)≠0 by decide⟩⟩
  split
  .have hs:=UM g.p a f.ep f.bt f.ct
   split
   .rename_i b;exact⟨_,B6 c a f.ep f.bt f.ct,hs.1,hs.2,.inl ⟨rfl,b⟩⟩
   .exact⟨_,B6 c a f.ep f.bt f.ct,hs.1,hs.2,.inr ⟨_,rfl,(BE f a n _).1,key _⟩⟩
  .exact⟨g.p,c,rfl,rfl,.inr ⟨_,rfl,(BE f a n _).1,key _⟩⟩
theorem UN(a:jA g.p)(n:Int):sG g (cF g (qI n)):=⟨g.p,a,rfl,rfl,.inr ⟨_,rfl,show (7:Int)≠1 by decide,λe b=>UY b (by simp[qI])⟩⟩
theorem GI.call(h:GI g j was Ek E R L n0 k)(f:j<=200){x:Gg×Int}(b:sG g x):∃a c,GI x.1 (j+1) (if x.2=0 then was++[x.1.s] else was) Ek a R c n0 k/\x.1.syn=g.syn/\x.1.o=g.o/\(x.2=0->g.rows.length<x.1.rows.length)/\
  (x.2≠0->x.1.s=g.s/\x.1.pend=g.pend/\x.1.rows=g.rows):=by
 obtain⟨p,p1,p2,p3,b⟩:=b;have d:=h.withP p1 (by have:=h.count;omega) p2
 rcases b with ⟨e1,e2⟩|⟨r,rfl,i,n⟩
 .refine⟨E,L,?_,by rw[e1],by rw[e1],λh=>UY h e2,λ_=>by rw[e1];exact⟨rfl,rfl,rfl⟩⟩
  rw[UW e2,e1];exact d.mono
 .by_cases he:(cF { g with p:=p } r).2=0
  .obtain⟨a,c,a1,a2,a3⟩:=d.cmt f n i he;refine⟨a,c,?_,a2,?_,λ_=>a3,λh=>UY he h⟩
   .rw [UX he];exact a1
   .unfold cF;split <;> rfl
  .have e:(cF { g with p:=p } r).1={ g with p:=p }:=by
    unfold cF at he ⊢
    split
    .rfl
    .rename_i m;rw[UW m]at he;exact UY rfl he
   refine⟨E,L,?_,by rw[e],by rw[e],λh=>UY h he,λ_=>by rw[e];exact⟨rfl,rfl,rfl⟩⟩
   rw[UW he,e];exact d.mono
theorem uJ{s:aI}{now period:Int}{p:Pb}:∀n,(dJ s now period p n).1.boot=p.boot
 | 0=>rfl
 | n+1=>by
  rw[dJ]
  split
  .exact uJ n
  .exact uJ n
theorem Mn{s:aI}{now period:Int}{p:Pb}(b:0<=p.count/\p.count+64<=1000000000000)(hb:0<=p.boot/\p.boot<=1099511627776):∀n,n<=64->p.count<=(dJ s now period p n).1.count/\(dJ s now period p n).1.count<=p.count+n/\
  ∀o∈(dJ s now period p n).2,o.kind=1/\∃f:Fq,gA o.bs=.ok f/\f.kind=3/\f.bt=p.boot/\f.ag=o.ag
 | 0,_=>⟨V7 _,by show p.count<=p.count+((0:Nat):Int);omega,λo a=>UY a (by simp[dJ])⟩
 | n+1,hn=>by
  obtain⟨a1,a2,a3⟩:=Mn (s:=s) (now:=now) (period:=period) b hb n (by omega);rw[dJ]
  split
  .refine⟨?_,?_,λo a=>?_⟩
   .show _<=(dJ s now period p n).1.count+1;omega
   .show (dJ s now period p n).1.count+1<=_;omega
   .rcases Vz.1 a with a|a
    .exact a3 o a
    .rw [Vo]at a;subst a;refine⟨rfl,_,Mi ?_,rfl,uJ n,rfl⟩;have c:=uJ (s:=s) (now:=now) (period:=period) (p:=p) n;simp[fx,dV,aU,gR,Fq.nums];omega
  .exact⟨a1,by omega,a3⟩
theorem Mo{s:aI}{now:Int}(h:(bN s (fj now)).2.2=0):0<=now/\now<=4611686018427387903:=(iC (su h)).nw
theorem GI.step(h:GI g j was Ek E R L n0 k)(u:j<=200)(now:Int):∃c d,GI (dB g now).1 (j+1) (if (dB g now).2.2=0 then was++[(dB g now).1.s] else was) Ek c R d n0 k/\(dB g now).1.syn=g.syn/\(dB g now).1.o=g.o/\
  ((dB g now).2.2=0->g.rows.length<(dB g now).1.rows.length)/\((dB g now).2.2≠0->(dB g now).1.s=g.s/\(dB g now).1.pend=g.pend/\(dB g now).1.rows=g.rows)/\
  ∀o∈(dB g now).2.1,o.kind=1/\∃f:Fq,gA o.bs=.ok f/\f.kind=3/\f.bt=g.s.boots/\f.ag=o.ag:=by
 have t:sG g (cF g (fj now)):=⟨g.p,h.prb,rfl,rfl,.inr ⟨_,rfl,show (6:Int)≠1 by decide,λe a=>UY a (by simp[fj])⟩⟩
 obtain⟨c,d,a1,a2,a3,a4,a5⟩:=h.call u t;have m:=h.count;have ep:(cF g (fj now)).1.p=g.p:=by unfold cF;split <;> rfl
 unfold dB
 by_cases a:(cF g (fj now)).2=0
 .rw [UW (by rw[a];decide)];have v:=Mo (s:=g.s) (now:=now) (by
   unfold cF at a
   split at a
   .exact a
   .rename_i b;exact Decidable.not_not.1 b)
  have w:=B8 (s:=(cF g (fj now)).1.s) (period:=g.o.period) h.prb (by omega) v 64 (Vg _);have hb:0<=g.p.boot/\g.p.boot<=1099511627776:=by rw[h.boot];exact h.hs.R.R.ok.boots
  have n:=Mn (s:=(cF g (fj now)).1.s) (now:=now) (period:=g.o.period) ⟨h.prb.count.1,by omega⟩ hb 64 (Vg _);refine⟨c,d,?_,a2,a3,λ_=>a4 a,λb=>UY rfl b,λo i=>?_⟩
  .rw [UX a]at a1;rw[UX rfl];exact a1.withP w.1 (by have:=n.2.1;omega) (by rw[ep];exact uJ _)
  .have:=n.2.2 o i;rw[h.boot]at this;exact this
 .rw [UX a];exact⟨c,d,a1,a2,a3,λb=>UY b a,λ_=>a5 a,λo i=>UY i (by simp)⟩
end
structure li where
 what:Int
 ag:Int
 now:Int
 next:Int
 keep:Int
 a:KQ
 c:Nat
 bs:List Int
abbrev lj(x:li):Os:=[aD x.what,aD x.ag,aD x.now,aD x.next,aD x.keep,.slice x.a x.bs.length x.c]
theorem uK(x:li):(lj x).length=6:=rfl
structure GcK(Q:aE)(a:KQ)(xs:List li):Prop where
 row:KIn Q a (flat lj xs)
 bs:∀x∈xs,KIn Q x.a (x.bs.map U8)
 ok:∀x∈xs,aH x.bs/\aF x.keep
 len:xs.length<=maxLen
theorem GcK.sub{Q Q':aE}{a:KQ}{xs:List li}(h:GcK Q a xs)(hs:aM Q Q'):GcK Q' a xs:=⟨h.row.sub hs,λx b=>(h.bs x b).sub hs,h.ok,h.len⟩
def grG(o:Opt)(xs:List li):Bool:=decide (60<xs.length)||grC o.cfg 0||xs.any λx=>decide (3000<x.bs.length)
abbrev jf(s:Sn):Os:=[aD s.bt,aD s.ct]
section
variable {F L:List aE}{H:aC}{K:KE}{Q:aE}{gb db:Nat}{g:Gg}{o:Opt}
abbrev eR(p:Prop)[Decidable p]:Int:=if p then 0 else 11
theorem eR0(p:Prop)[Decidable p]:decide (eR p=0)=decide p:=by
 unfold eR
 by_cases h:p
 .simp [h]
 .simp [h]
theorem R16New{boot most:Int}(h:aA H F)(k:∀p c,aA c F->K (.tuple #[.pointer p,aD (eR ((1<=boot/\boot<=1099511627776)/\1<=most/\most<=1024))]) c):CF 38 #[aD boot,aD most] H K:=by
 refine cM 38 476 ⟨λa=>?_,λa=>?_⟩ <;> simp only[Vr,Vp,Vc,Ve]at a
 .rw [eR,nO]at k;exact k _ _ h
 .rw [eR,pO]at k;exact h.al λb _ h=>k _ _ h.tl
theorem R20New{lag:Int}(h:aA H F)(k:∀p c,aA c F->K (.tuple #[.pointer p,aD (eR (1<=lag/\lag<=1099511627776))]) c):CF 86 #[aD lag] H K:=by
 refine cM 86 476 ⟨λa=>?_,λa=>?_⟩ <;> simp only[Vr,Vp,Vc,Ve]at a
 .rw [eR,nO]at k;exact k _ _ h
 .rw [eR,pO]at k;exact h.al λb _ h=>k _ _ h.tl
theorem R04Rate{rho:Int}:bU Tryz.prog 187 #[aD rho] H (.bool (decide (0<=rho)&&decide (rho<=100000))):=by
 unfold bU;exact cM 187 28 ⟨rfl,rfl⟩
theorem R18New{rho trust:Int}(h:aA H F)(k:∀p c,aA c F->K (.tuple #[.pointer p,aD (eR (gu rho/\0<=trust/\trust<=100))]) c):CF 87 #[aD rho,aD trust] H K:=by
 refine cM 87 476 ⟨_,R04Rate,λa=>?_,λa=>?_⟩ <;> simp only[Vr,Vp,V1,VI,Vd,VF,Vc,Ve]at a
 .rw [eR,UW (by unfold gu;omega)]at k;exact k _ _ h
 .rw [eR,UX (by unfold gu;omega)]at k;exact h.al λb _ h=>k _ _ h.tl
theorem R15New{most:Int}(h:aA H F)(k:∀p c,aA c F->K (.tuple #[.pointer p,aD (eR (1<=most/\most<=64))]) c):CF 88 #[aD most] H K:=by
 refine cM 88 476 ⟨λa=>?_,λa=>?_⟩ <;> simp only[Vr,Vp,Vc,Ve]at a
 .rw [eR,nO]at k;exact k _ _ h
 .rw [eR,pO]at k;exact h.al λb _ h=>k _ _ h.tl
theorem R22New{most:Int}(h:aA H F)(k:∀p c,aA c F->K (.tuple #[.pointer p,aD (eR (1<=most/\most<=1024))]) c):CF 89 #[aD most] H K:=by
 refine cM 89 476 ⟨λa=>?_,λa=>?_⟩ <;> simp only[Vr,Vp,Vc,Ve]at a
 .rw [eR,nO]at k;exact k _ _ h
 .rw [eR,pO]at k;exact h.al λb _ h=>k _ _ h.tl
theorem R13New{most:Int}(h:aA H F)(k:∀p c,aA c F->K (.tuple #[.pointer p,aD (eR (1<=most/\most<=256))]) c):CF 90 #[aD 0,aD most] H K:=by
 refine cM 90 476 ⟨λa=>?_,λa=>?_⟩ <;> simp only[Vr,Vp,Vc,Ve]at a
 .rw [eR,nO]at k;exact k _ _ h
 .rw [eR,pO]at k;exact h.al λb _ h=>k _ _ h.tl
theorem R24Right{c:bG}(h:aA H F)(k:∀a,aA a F->K (.bool (fC c)) a):CF 39 #[.agg ⟨ol c⟩] H K:=by
 refine cM 39 17895708 ?_;refine h.al λb _ h=>⟨_,h.r 0,?_⟩
 refine R20New h λp1 f h=>⟨_,_,rfl,_,h.r 0,_,h.r 0,?_⟩
 refine R18New h λp2 j h=>⟨_,_,rfl,_,h.r 0,?_⟩
 refine R15New h λp3 d h=>⟨_,_,rfl,_,h.r 0,?_⟩
 refine R22New h λp4 i h=>⟨_,_,rfl,_,h.r 0,?_⟩
 refine R13New h λp5 m h=>⟨_,_,rfl,_,_,_,h.q 0,?_⟩
 refine cM 91 28 ?_;refine h.al λb _ h=>⟨_,h.r 0,_,λ_=>h.r 0,_,λ_=>h.r 0,_,λ_=>h.r 0,_,λ_=>h.r 0,_,λ_=>h.r 0,_,rfl,?_⟩
 conv=>whnf
 have e:(((((((((((decide (1<=c.width))&&(decide (c.width<=1099511627776)))&&(decide (0<=c.policy)))&&(decide (c.policy<=3)))&&(decide (0<=c.most)))&&(decide (c.most<=4611686018427387903)))&&decide (eR (1<=c.lag/\c.lag<=1099511627776)=0))&&decide (eR (gu c.rho/\0<=c.trust/\c.trust<=100)=0))&&decide (eR (1<=c.agents/\c.agents<=64)=0))&&decide (eR (1<=c.cells/\c.cells<=1024)=0))&&decide (eR (1<=c.hold/\c.hold<=256)=0))=fC c:=by
  rw[eR0,eR0,eR0,eR0,eR0];unfold fC;rw[VH];simp only[Vd,Vc];unfold Gd.ok bG.gd;dsimp only
  constructor
  .rintro⟨⟨⟨⟨⟨⟨⟨⟨⟨⟨h1,h2⟩,h3⟩,h4⟩,h5⟩,h6⟩,h7⟩,h8⟩,h9⟩,h10⟩,h11⟩;exact⟨⟨⟨⟨⟨⟨h1,h2,h3,h4,h5,h6⟩,h7⟩,h8⟩,h9⟩,h10⟩,h11⟩
  .rintro⟨⟨⟨⟨⟨⟨h1,h2,h3,h4,h5,h6⟩,h7⟩,h8⟩,h9⟩,h10⟩,h11⟩;exact⟨⟨⟨⟨⟨⟨⟨⟨⟨⟨h1,h2⟩,h3⟩,h4⟩,h5⟩,h6⟩,h7⟩,h8⟩,h9⟩,h10⟩,h11⟩
 have k:=k _ h.tl.tl;rw[<-e]at k;exact k
theorem R25Right(h:aA H F)(k:∀a,aA a F->K (.bool (fg o)) a):CF 11 #[.agg ⟨gV o⟩] H K:=by
 refine cM 11 284 ?_;refine h.al λb _ h=>⟨_,h.r 0,?_⟩
 refine R16New h λp1 f h=>⟨_,_,rfl,_,_,_,_,_,_,_,_,_,h.q 0,?_⟩
 refine R24Right (c:=o.cfg) h λd h=>⟨_,rfl,_,λ_=>h.r 0,_,λ_=>h.r 0,_,λ_=>h.r 0,_,λ_=>h.r 0,_,λ_=>h.r 0,_,λ_=>h.r 0,?_⟩
 have e:(((((((fC o.cfg&&(decide (1<=o.period)))&&(decide (o.period<=1099511627776)))&&decide (eR (((1:Int)<=1/\(1:Int)<=1099511627776)/\1<=o.probes/\o.probes<=1024)=0))&&(decide (64<=o.segment)))&&(decide (o.segment<=1048576)))&&(decide (1<=o.save)))&&(decide (o.save<=1048576)))=fg o:=by
  rw[eR0];unfold fg;rw[VH];simp only[Vd,Vc]
  constructor
  .rintro⟨⟨⟨⟨⟨⟨⟨h1,h2⟩,h3⟩,h4⟩,h5⟩,h6⟩,h7⟩,h8⟩;exact⟨⟨⟨⟨h1,h4.2⟩,h2,h3⟩,h5,h6⟩,h7,h8⟩
  .rintro⟨⟨⟨⟨h1,h2⟩,h3,h4⟩,h5,h6⟩,h7,h8⟩;exact⟨⟨⟨⟨⟨⟨⟨h1,h3⟩,h4⟩,by decide,h2⟩,h5⟩,h6⟩,h7⟩,h8⟩
 have k:=k _ h.tl;rw[<-e]at k;exact k
theorem OfO_spec(h:aA H F)(k:∀a,aA a F->K (.agg ⟨gV o⟩) a):CF 10 #[.agg ⟨gV o⟩] H K:=by
 refine cM 10 28 ?_;refine h.al λb _ h=>?_
 refine h.al λb1 _ h=>⟨_,_,_,_,_,_,_,_,_,h.q 1,_,h.r 1,_,h.r 1,_,h.r 1,_,h.r 1,?_⟩
 refine cM 37 28 ?_;refine h.al λb2 _ h=>?_
 refine h.al λb3 _ h=>⟨_,h.r 1,_,h.r 1,_,h.r 1,_,h.r 1,_,h.r 1,_,h.r 1,_,h.r 1,_,h.r 1,_,h.r 1,?_⟩
 refine h.st 0 rfl rfl λd h=>⟨_,_,_,_,_,_,_,_,_,h.q 0,_,_,_,_,_,_,_,_,_,rfl,h.r 3,h.r 3,h.r 3,h.r 3,?_⟩
 refine h.st 2 rfl rfl λc h=>⟨_,_,_,_,_,_,_,_,_,_,_,_,_,h.q 2,?_⟩
 exact k _ h.tl.tl.tl.tl
theorem UO{a:KQ}{c:Nat}{xs:List li}(h:aA H (Q::F))(v:GcK Q a xs)(k:∀n,aA n (Q::F)->K (.bool (grG o xs)) n):CF 8 #[.agg ⟨gV o⟩,.slice a xs.length c] H K:=by
 refine cN 8 0x12283c921562139925b4c [[(5,sI)],[(13,sB)]] ?_;refine h.al λb _ h=>?_
 have t:=v.len;unfold maxLen at t;intro R G;refine⟨_,_,_,_,_,_,_,_,_,λ_=>h.q 0,λw=>?_,λw=>?_⟩
 .refine U5 (cf:=o.cfg) (xs:=[]) (a:=none) (c:=0) (h.o [1,0] 2) ⟨λH F _=>ip _ _,λx v=>UY v (by simp),by simp⟩ λP h=>⟨_,rfl,G _ _ ?_⟩
  have J:grR o.cfg []=grC o.cfg 0:=by simp[grR]
  rw[J];have y:decide (60<xs.length)=false:=VK (by have:=Vb w;omega);have B:grG o xs=(grC o.cfg 0||xs.any λx=>decide (3000<x.bs.length)):=by unfold grG;rw[y,W1]
  refine⟨λf=>?_,λf=>?_⟩
  .have f:grC o.cfg 0=true:=f;have:grG o xs=true:=by rw[B,f];simp
   rw[this]at k;exact k _ (h.o [0] 2)
  .refine⟨λi n=>∃j:Nat,i=j/\j<=xs.length/\(∀q (u:q<xs.length),q<j->xs[q].bs.length<=3000)/\aA n (Q::cellsA b (gV o) 25::F),λi n=>xs.length-i.toNat,⟨0,rfl,by omega,λq _ h=>UY h (by omega),h⟩,?_⟩
   rintro i N ⟨j,rfl,O,e,h⟩;refine⟨λA=>?_,λA=>?_⟩
   .have d:j<xs.length:=by simpa using A
    have D:=v.row.at h 0 rfl;refine⟨⟨by omega,by omega⟩,_,_,D.some uK (by decide) d,_,_,_,D.el uK d 5 rfl,λs=>?_,λs=>?_⟩
    .have s:=Va s;have:grG o xs=true:=by
      rw[B,Vr];exact .inr (List.any_eq_true.2 ⟨xs[j],Vk d,Vs (by omega)⟩)
     rw[this]at k;exact k _ (h.o [0] 2)
    .have s:=Vb s;have E:i64.wrap ((j:Int)+1)=((j+1:Nat):Int):=by rw[aJ];omega
     refine⟨⟨j+1,E,d,λq u L=>?_,h⟩,by rw[E];dsimp only;omega⟩
     rcases V0 q j with m|m
     .exact e q u m
     .obtain rfl:q=j:=by omega
      omega
   .have M:¬j<xs.length:=by simpa using A
    have:grG o xs=false:=by
     have f:grC o.cfg 0=false:=f;rw[B,f,W1,List.any_eq_false];intro x C;obtain⟨q,u,rfl⟩:=VU C;have:=e q u (by omega);simp;omega
    rw[this]at k;exact k _ (h.o [0] 2)
 .have:grG o xs=true:=by
   unfold grG;have:decide (60<xs.length)=true:=Vs (by have:=Va (p:=60<(xs.length:Int)) (by simpa using w);omega);rw[this];simp
  rw[this]at k;exact G _ _ ⟨λ_=>k _ h.tl,λI=>UY I (by simp)⟩
theorem grG_no{xs:List li}(h:grG o xs=false):xs.length<=60/\grC o.cfg 0=false/\∀x∈xs,x.bs.length<=3000:=by
 unfold grG at h;simp only[Vp,Ve,List.any_eq_false,Vc]at h;exact⟨by omega,h.1.2,λx a=>by have:=h.2 x a;omega⟩
theorem slNo:SlT Tryz.prog 96 101 2 16:=iM (by kernel_rfl)
theorem UP{pb:Nat}{p:Pb}(y:p.out.length<=100000)(h:aA H (prbA pb p::F))(k:∀a c d,aA d (slA 101 2 a p.out.length c (flat jf p.out)::prbA pb p::F)->K (.slice a p.out.length c) d):CF 83 #[PA pb 0] H K:=by
 obtain⟨a,c,m,h⟩:=mP.1 h;refine cN 83 0x1121561239925144c [[(3,sS),(17,sI)]] ⟨_,_,_,h.r 0,?_⟩;refine h.mk0 slNo (by omega) (by omega) λx w h=>⟨_,_,_,rfl,_,_,_,h.r 1,?_⟩
 refine⟨λla s lc t d=>∃j:Nat,t=j/\j<=p.out.length/\j=s/\aA d (slA 101 2 la j lc (flat jf (p.out.take j))::cellsA pb [aD p.boot,aD p.most,aD p.count,.slice a p.out.length c,.map (some m)] 247::slA 326 5 a p.out.length c (flat gB p.out)::mapA aD aD m p.last::F),
  λ_ _ _ t _=>p.out.length-t.toNat,⟨0,rfl,by omega,rfl,h⟩,?_⟩
 rintro la s lc t A ⟨j,rfl,C,rfl,h⟩;refine⟨λf=>?_,λf=>?_⟩
 .have b:j<p.out.length:=by simpa using f
  have u:=h.sl_rd 2 rfl;refine⟨⟨by omega,by omega⟩,_,_,u.some mO (by decide) b,_,_,_,_,_,u.els mO b,?_⟩;refine h.al λb1 _ h=>?_
  refine h.st 0 rfl rfl λv h=>⟨_,_,h.q 0,?_⟩
  refine h.al λb2 _ h=>?_
  refine h.append (m:=1) (ws:=jf p.out[j]) slNo 2 rfl (h.ce_rd 0 rfl) rfl rfl (by omega) (by omega) λa5 c5 B h=>⟨_,_,_,rfl,?_⟩
  have n:i64.wrap ((j:Int)+1)=((j+1:Nat):Int):=by rw[aJ];omega
  have e:flat jf (p.out.take j)++jf p.out[j]=flat jf (p.out.take (j+1)):=by rw[VE b,dT];simp[flat]
  have h:=h.o [2,3,4,5] 6;rw[e]at h;exact⟨⟨j+1,n,b,rfl,h⟩,by rw[n];dsimp only;omega⟩
 .have i:j=p.out.length:=by
   have:¬j<p.out.length:=by simpa using f
   omega
  subst i;rw[V8]at h;exact k la lc _ ((mP (pb:=pb)).2 ⟨a,c,m,h.o [1,2,3,0] 4⟩ |> mV)
theorem UQ(h:aA H (gateA Q gb db g::F))(d:g.p.out.length<=100000)(k:∀a c b,aA b (slA 101 2 a g.p.out.length c (flat jf g.p.out)::gateA Q gb db g::F)->K (.slice a g.p.out.length c) b):CF 33 #[PA gb 0] H K:=by
 obtain⟨x,pb,ys,e1,e2,e3,h⟩:=fP.1 h;refine cM 33 28 ⟨some ⟨pb,0,none⟩,(h.r 0).trans (by show some x.pv=_;rw[e1]),?_⟩;refine UP d (h.o [6,0,1,2,3,4,5] 7) λa c e h=>⟨_,_,_,rfl,k _ _ _ ?_⟩
 exact mV (fP.2 ⟨x,pb,ys,e1,e2,e3,h.o [2,3,4,5,6,7,1,0] 8⟩)
def doG(g:Gg)(x:li):Gg×Int:=
 if x.what=0 then jd g x.ag x.now x.bs else if x.what=1 then ((dB g x.now).1,(dB g x.now).2.2) else if x.what=2 then cF g (qI x.next) else (g,1)
theorem agent_ep{s:aI}(ok:cQ s)(a:Int)(h:(kW s a).2=true):1<=(kW s a).1.en.epoch/\(kW s a).1.en.epoch<=1099511627776:=by
 have f:=ok.rows.at a;unfold kW at h ⊢
 split
 .rename_i d;obtain⟨h0,st,b⟩:=ok.str d;have e:dM s a=some st:=by unfold dM;rw[nO,b];rfl
  rw[e];dsimp only;omega
 .rename_i c;rw[UW c]at h
  cases h
section
variable {j:Nat}{was:List aI}{Ek E:List cu}{R:DR}{LL:LG}{n0:Int}{kk:Nat}
theorem BF{now:Int}(I:GI g j was Ek E R LL n0 kk)(u:j<=198)(h:aA H (Q::gateA Q gb db g::F))
  (k:∀Q' ys a c f,aM Q Q'->ys.map Oy.o=(dB g now).2.1->(∀y∈ys,gh Q' y)->aA f (Q'::slA 91 11 a ys.length c (flat bH ys)::gateA Q' gb db (dB g now).1::F)->K (.tuple #[.slice a ys.length c,aD (dB g now).2.2]) f) :
  CF 23 #[PA gb 0,aD now] H K:=by
 have m:sG g (cF g (fj now)):=⟨g.p,I.prb,rfl,rfl,.inr ⟨_,rfl,show (6:Int)≠1 by decide,λe b=>UY b (by simp[fj])⟩⟩
 obtain⟨n,v,a1,a2,a3,a4,a5⟩:=I.call (by omega) m;have d:=I.count;refine UF (I.ok (by omega)) (a1.ok (by omega)) (by omega) (λb=>Mo (s:=g.s) (now:=now) (by
   unfold cF at b
   split at b
   .exact b
   .rename_i i;exact Decidable.not_not.1 i)) (λa t h=>agent_ep a1.hs.R.R.ok _ h) h k
theorem Do_spec{x:li}(I:GI g j was Ek E R LL n0 kk)(s:j<=198)(h:aA H (Q::gateA Q gb db g::F))(t:KIn Q x.a (x.bs.map U8))(hb:aH x.bs)(w:x.bs.length<=3000)
  (k:∀Q' n,aM Q Q'->aA n (Q'::gateA Q' gb db (doG g x).1::F)->K (.bool (decide ((doG g x).2=0))) n) :
  CF 14 #[PA gb 0,.agg ⟨lj x⟩] H K:=by
 refine cM 14 318107760663740 ?_;have ok:=I.ok (by omega);unfold doG at k;refine h.al λb _ h=>⟨_,h.r 0,λd=>?_,λd=>?_⟩
 .have d:=Va d;rw[UX d]at k;refine⟨_,h.r 0,_,h.r 0,_,_,_,h.r 0,?_⟩;refine OQ h (λH h=>t.at h 1 rfl) (by omega) λv u m h=>⟨_,_,_,rfl,h.r 1,h.r 1,?_⟩
  have i:=h.sl_nc 0 rfl;refine sE ok (h.o [2,3,0,1] 4) (λH h=>h.sl_rd 0 rfl) hb i λQ' y hs h=>⟨_,rfl,k Q' _ hs (h.o [0,1] 4)⟩
 have d:=Vb d;rw[UW d]at k;refine⟨λf=>?_,λf=>?_⟩
 .have f:=Va f;rw[UX f]at k;refine⟨_,h.r 0,?_⟩;refine BF I s (h.o [1,2,0] 3) λQ' ys a c m hs _ _ h=>⟨_,_,_,_,rfl,k Q' _ hs (h.o [0,2] 4)⟩
 have f:=Vb f;rw[UW f]at k;refine⟨λe=>?_,λe=>?_⟩
 .have e:=Va e;rw[UX e]at k;refine⟨_,h.r 0,?_⟩;exact LZ ok (h.o [1,2,0] 3) λQ' m hs h=>⟨_,rfl,k Q' _ hs (h.o [0,1] 3)⟩
 have e:=Vb e;rw[UW e]at k;exact k Q _ (aM.refl Q) h.tl
theorem do_calls{x:li}(I:GI g j was Ek E R LL n0 kk)(b:j<=200):∃a c,GI (doG g x).1 (j+1) (if (doG g x).2=0 then was++[(doG g x).1.s] else was) Ek a R c n0 kk/\(doG g x).1.syn=g.syn/\(doG g x).1.o=g.o/\((doG g x).2=0->g.rows.length<(doG g x).1.rows.length)/\
  ((doG g x).2≠0->(doG g x).1.s=g.s/\(doG g x).1.pend=g.pend/\(doG g x).1.rows=g.rows):=by
 unfold doG
 split
 .exact I.call b (Mm I.prb _ _ _)
 split
 .obtain⟨a,c,a1,a2,a3,a4,a5,_⟩:=I.step b x.now;exact⟨a,c,a1,a2,a3,a4,a5⟩
 split
 .exact I.call b (UN I.prb _)
 .exact⟨E,LL,by rw[UW (show ¬(1:Int)=0 by decide)];exact I.mono,rfl,rfl,λh=>UY h (show ¬(1:Int)=0 by decide),λ_=>⟨rfl,rfl,rfl⟩⟩
theorem BG{rows:DR}{syn:Nat}{s:aI}{t:List cu}(D:fg o=true)(v:o.cfg.cells.toNat<=200)(b:fk o.cfg j (dv rows) s E t)(d:TI o.segment rows rows.length (opS o.segment rows) j)(B:ft o.segment rows=0)(I:j<=198)
  (h:aA H (Q::diskX db rows syn::F))
  (k:∀Q' gb ys a c n m s0 X,aM Q Q'->Hs o.cfg m s0 t->m<=j->E=t++X->ys.map Oy.o=kepN s0 s0.kept.length++X.flatMap di->(∀y∈ys,gh Q' y)->aA n (Q'::slA 91 11 a ys.length c (flat bH ys)::gateA Q' gb db (mW o s rows)::F)->
   K (.tuple #[PA gb 0,.slice a ys.length c,aD 0]) n):CF 16 #[PA db 0,.agg ⟨gV o⟩] H K:=by
 have hs:=b.hs;obtain⟨s0,e,m,b,rfl,rfl⟩:=b;have f:=b.h0.R;have J:=b.len;have G:=d.len;have L:=d.seg;have hb:=hs.boots;have x:=hs.R.R.ok.boots;have w:=Mj (s:=dI s0 e) (by omega);refine UG D d.rok (by omega) B (by omega) (d.ok (by omega)) f.R f.cfg (b.tell.imp (λh=>⟨h.1,h.2.1⟩) id) b.vals b.oks (f.few v (by omega)) (λi hi=>?_) (by omega) (by rw[w]) (by rw[w];dsimp only;omega) h λQ' gb ys a c n u hm A h=>k Q' gb ys a c n m s0 (jr s0 e) u b.h0 (by omega) rfl ?_ A h
 .have:=(f.run (rs:=e.take i) λr C=>b.vals r (VR C)).few v (by rw[Vx];omega)
  omega
 .rw [hm,Mh,V8]
theorem US(d:fg o=false)(h:aA H F)(k:∀c,aA c F->K (.tuple #[.pointer none,.slice none 0 0,aD 11]) c):CF 16 #[PA db 0,.agg ⟨gV o⟩] H K:=by
 refine cM 16 8194785019629852 ?_;refine h.al λb _ h=>⟨_,_,_,_,_,_,_,_,_,_,_,_,_,h.q 0,?_⟩
 refine Bb (o:=o) h λe h=>⟨_,rfl,λ_=>k _ h.tl,λa=>?_⟩
 rw[d]at a;cases a
theorem opt_seg(a:fg o=true):64<=o.segment/\o.segment<=1048576:=by
 unfold fg at a;simp only[Vd,Vc]at a;exact a.1.2
theorem Mp(a:fg o=true):fC o.cfg=true:=by
 unfold fg at a;simp only[Vd]at a;exact a.1.1.1.1
theorem uL(b:fg o=true):TI o.segment [] 0 (opS o.segment []) 0/\ft o.segment []=0:=by
 have h:=opt_seg b;have a:ft o.segment []=0:=openE_in h (by rw[wt.2.2];decide);exact⟨ti0 a,a⟩
theorem xK(a:fg o=true):fk o.cfg 0 (dv []) (bS o.cfg) [] []:=by
 rw[wt.2.1];exact fk.new (Mp a)
theorem UT(d:o.cfg.cells.toNat<=200\/fg o=false)(h:aA H (Q::F))(k1:fg o=false->∀f,aA f (Q::F)->K (.tuple #[.pointer none,.pointer none]) f)
  (k2:fg o=true->∀Q' gb db f,aM Q Q'->aA f (Q'::gateA Q' gb db (mW o (bS o.cfg) [])::F)->K (.tuple #[PA gb 0,PA db 0]) f):CF 9 #[.agg ⟨gV o⟩] H K:=by
 refine cM 9 1167836 ?_;refine h.al λb _ h=>?_
 refine New_spec h λdb k h=>⟨_,rfl,λe=>UY e (by simp),λ_=>⟨_,_,_,_,_,_,_,_,_,_,_,_,_,h.q 1,?_⟩⟩
 cases ho:fg o with
 | false=>exact US ho (h.o [2] 3) λi h=>⟨_,_,_,_,_,rfl,λ_=>k1 ho _ h,λe=>UY e (by simp)⟩
 | true=>
  have d:o.cfg.cells.toNat<=200:=by
   rcases d with d|d
   .exact d
   .rw [ho]at d;cases d
  obtain⟨t1,t2⟩:=uL ho;refine BG (j:=0) ho d (xK ho) t1 t2 (by omega) (h.o [2,0,1] 3) λQ' gb ys a c i m s0 X hs _ _ _ _ _ h=>⟨_,_,_,_,_,rfl,λe=>UY e (by simp),λ_=>?_⟩
  exact k2 ho Q' gb db _ hs (h.o [0,2] 4)
end
end
namespace Ag
def o0:Opt:=⟨Al.c0,20,8,256,5⟩
def f1:Fq:={ kind:=1,ag:=3,bt:=1 }
def f2:Fq:={ kind:=4,ag:=3,ep:=1,bt:=1,got:=12,sent:=12 }
def ev:Pv:=⟨13,5,⟨#[109]⟩,[]⟩
def f3:Fq:={ kind:=5,ag:=3,ep:=1,evs:=[ev] }
def g0:Gg:=mW o0 (bS Al.c0) []
def A1:Gg×Int:=jd g0 3 10 (cC f1)
def g2:Gg:=je A1.1
def A3:Gg×List Ou×Int:=dB g2 12
def A4:Gg×Int:=jd A3.1 3 14 (cC f2)
def A5:Gg×Int:=jd A4.1 3 14 (cC f2)
def A6:Gg×Int:=jd A5.1 3 16 (cC f3)
def g7:Gg:=je A6.1
def rows8:DR:=fF g7.rows g7.syn 0
def g8:Gg:=mW o0 g7.s rows8
def A9:Gg×Int:=jd g8 3 20 (cC f2)
theorem e1:A1.2=0:=by kernel_rfl
theorem e2:A1.1.pend.length=1:=by kernel_rfl
theorem e3:A3.2.2=0:=by kernel_rfl
theorem e4:A3.2.1=[gU (dV 3 1 0)]:=by kernel_rfl
theorem e5:A3.1.p.out=[⟨1,0,3,1,12⟩]:=by kernel_rfl
theorem e6:A4.2=0:=by kernel_rfl
theorem e7:A5.2=19:=by kernel_rfl
theorem e8:A6.2=0:=by kernel_rfl
theorem e9:A6.1.pend.length=2:=by kernel_rfl
theorem e10:A1.1.pend.map (λo=>(o.kind,o.ag))=[(1,3)]:=by kernel_rfl
theorem e11:A6.1.pend.map (λo=>(o.kind,o.win))=[(2,1),(1,0)]:=by kernel_rfl
theorem e12:g7.s.boots=1:=by kernel_rfl
theorem e13:g8.s.boots=2:=by kernel_rfl
theorem e14:g8.s.now=16:=by kernel_rfl
theorem e15:A9.2=22:=by kernel_rfl
theorem e16:(cF A9.1 (qI 1)).2=11:=by kernel_rfl
theorem e17:fg o0=true:=by kernel_rfl
theorem e18:gA (gU (dV 3 1 0)).bs=.ok (dV 3 1 0):=Mi (a:=3) (e:=1) (b:=0) (by kernel_rfl)
def rs8:List Rp:=[eX,jc f1 3 10 0,fj 12,jc f2 3 14 12,jc f3 3 16 0]
theorem e19:dw (dv rows8)=(none,rs8.map rcO):=by kernel_rfl
theorem e20:dI (bS Al.c0) rs8=g7.s:=by kernel_rfl
def okG(ap:aI->Rp->aI×List cu×Int)(s:aI):List Rp->Bool
 | []=>true
 | r::rs=>decide ((ap s r).2.2=0)&&okG ap (ap s r).1 rs
theorem okG_at(ap:aI->Rp->aI×List cu×Int){rs:List Rp}:∀{s:aI},okG ap s rs=true->∀j (a:j<rs.length),(ap ((rs.take j).foldl (λs r=>(ap s r).1) s) rs[j]).2.2=0:=by
 induction rs with
 | nil=>intro s _ j a;exact UY a (by simp)
 | cons r rs ih=>
  intro s h j a;rw[okG,Vd]at h
  cases j with
  | zero=>exact Va h.1
  | succ j=>exact ih h.2 j (by simpa using a)
theorem e21:okG bN (bS Al.c0) rs8=true:=by kernel_rfl
theorem e22:((jr (bS Al.c0) rs8).flatMap di).length=3:=by kernel_rfl
theorem vals:∀r∈rs8,∀e∈r.evs,aF e.value:=by
 intro r a e b;have:∀r∈rs8,r.evs=[]\/r.evs=[ev]:=by
  intro r a;simp only[rs8,Vm,We,or_false]at a
  rcases a with rfl|rfl|rfl|rfl|rfl
  .exact .inl rfl
  .exact .inl rfl
  .exact .inl rfl
  .exact .inl rfl
  .exact .inr rfl
 rcases this r a with h|h
 .rw [h]at b;cases b
 .rw [h,Vo]at b;subst b;decide
theorem leads8:fk o0.cfg 5 (dv rows8) g7.s (jr (bS Al.c0) rs8) []:=
 ⟨bS Al.c0,rs8,0,⟨Hs.new (by kernel_rfl),Vg _,.inl ⟨e19,rfl,rfl⟩,vals,okG_at bN e21⟩,e20.symm,rfl⟩
abbrev Ig(g:Gg)(j:Nat):Prop:=∃was Ek E R L n0 k,GI g j was Ek E R L n0 k
theorem Ig.call{g:Gg}{j:Nat}(h:Ig g j)(c:j<=200)(a n:Int)(bs:List Int):Ig (jd g a n bs).1 (j+1):=by
 obtain⟨was,Ek,E,R,L,n0,k,h⟩:=h;obtain⟨d,e,b,_⟩:=h.call c (Mm h.prb a n bs);exact⟨_,_,_,_,_,_,_,b⟩
theorem Ig.sync{g:Gg}{j:Nat}(h:Ig g j)(a:j<=200):Ig (je g) (j+3):=by
 obtain⟨was,Ek,E,R,L,n0,k,h⟩:=h;obtain⟨e,f,c,d,b,_⟩:=h.sync a;exact⟨_,_,_,_,_,_,_,b⟩
theorem Ig.step{g:Gg}{j:Nat}(h:Ig g j)(a:j<=200)(n:Int):Ig (dB g n).1 (j+1):=by
 obtain⟨was,Ek,E,R,L,n0,k,h⟩:=h;obtain⟨c,d,b,_⟩:=h.step a n;exact⟨_,_,_,_,_,_,_,b⟩
theorem i0:Ig g0 2:=by
 obtain⟨a,h⟩:=BC e17 (by decide) (xK e17) (uL e17).1 (by omega);exact⟨_,_,_,_,_,_,_,h⟩
theorem i1:Ig A1.1 3:=i0.call (by omega) _ _ _
theorem i2:Ig g2 6:=i1.sync (by omega)
theorem i3:Ig A3.1 7:=i2.step (by omega) _
theorem i4:Ig A4.1 8:=i3.call (by omega) _ _ _
theorem i5:Ig A5.1 9:=i4.call (by omega) _ _ _
theorem i6:Ig A6.1 10:=i5.call (by omega) _ _ _
theorem i7:Ig g7 13:=i6.sync (by omega)
theorem o7:g7.o=o0:=by kernel_rfl
theorem t8:TI o0.segment rows8 rows8.length (opS o0.segment rows8) 14/\ft o0.segment rows8=0:=by
 obtain⟨was,Ek,E,R,L,n0,k,h⟩:=i7;obtain⟨_,_,_,_,_,_,_,_,b,a⟩:=h.crash (by omega) 0;rw[o7]at b a;exact⟨b,a⟩
theorem i8:Ig g8 16:=by
 obtain⟨a,h⟩:=BC e17 (by decide) (leads8.mono (by omega)) t8.1 (by omega);exact⟨_,_,_,_,_,_,_,h⟩
theorem i9:Ig A9.1 17:=i8.call (by omega) _ _ _
theorem Ig.ok{g:Gg}{j:Nat}(h:Ig g j)(a:j<=200):GgOk g/\∀r∈g.rows,r.1<=g.rl.seg:=by
 obtain⟨was,Ek,E,R,L,n0,k,h⟩:=h;exact⟨h.ok a,h.ti.files⟩
end Ag
section
variable {F L:List aE}{H:aC}{K:KE}{Q:aE}
theorem BH(h:aA H F)(k:∀a,aA a F->K (.agg ⟨gV Ag.o0⟩) a):CF 31 #[] H K:=by
 refine cM 31 28 ?_;refine h.al λb _ h=>?_
 refine U7 h λd h=>⟨_,_,_,_,_,_,_,_,_,rfl,?_⟩
 refine h.st 0 rfl rfl λc h=>⟨_,_,_,_,_,_,_,_,_,_,_,_,_,h.q 0,k _ h.tl⟩
theorem BI{f:Fq}{x:QA}{evs:List Ev}(h:aA H F)(r:lK F f x evs)(k:∀a c d,aA d (slA 5 1 a (cC f).length c ((cC f).map U8)::F)->K (.slice a (cC f).length c) d) :
  CF 32 #[.agg ⟨cH f x⟩] H K:=by
 refine cM 32 284 ?_;refine h.al λb _ h=>⟨_,_,_,_,_,_,_,_,_,_,_,_,_,_,_,_,_,_,_,_,h.q 0,?_⟩
 refine AA h (r.cons _) λa c e h=>⟨_,_,_,_,rfl,k _ _ _ (h.o [0] 2)⟩
theorem f1_bare:Ag.f1.Bare:=⟨show (1:Int)≠5 by decide,show (1:Int)≠8 by decide,rfl,rfl,rfl,rfl,λi b a h=>by
 rcases nine b a with rfl|rfl|rfl|rfl|rfl|rfl|rfl|rfl|rfl <;> first|rfl|exact UY (show _∈aU 1 by decide) h⟩
theorem f2_bare:Ag.f2.Bare:=⟨show (4:Int)≠5 by decide,show (4:Int)≠8 by decide,rfl,rfl,rfl,rfl,λi b a h=>by
 rcases nine b a with rfl|rfl|rfl|rfl|rfl|rfl|rfl|rfl|rfl <;> first|rfl|exact UY (show _∈aU 4 by decide) h⟩
def evE:Ev:=⟨13,5,⟨#[109]⟩,[],none,0⟩
theorem f3_rd{b:Nat}(i:Nat)(c:aW i F=cellsA b (cw evE) 99):lK F Ag.f3 { ea:=some ⟨b,0,none⟩,ec:=1 } [evE]:=by
 refine⟨rfl,⟨λH h=>h.ce_rd i (cs:=cw evE) c,λe a H _=>?_⟩,λH _=>ip H none,λH _=>ip H none,.inl rfl,⟨λh=>UY rfl h,λ_=>⟨rfl,rfl,rfl,rfl,rfl,rfl,rfl⟩,λi f d h=>?_⟩,by simp,λe a=>?_,by simp[Ag.f3],by simp[Ag.f3]⟩
 .rw [Vo]at a;subst a;exact ip H none
 .rcases nine f d with rfl|rfl|rfl|rfl|rfl|rfl|rfl|rfl|rfl <;> first|rfl|exact UY (show _∈aU 5 by decide) h
 .rw [Vo]at a;subst a;simp[evE]
theorem qJ(f:Fq):aH (cC f):=by
 unfold cC
 split
 .exact kJ
 split
 .exact kJ
 refine Gr (dE (dE (iB _) (jx λi _=>iB _)) ?_)
 unfold mF
 split
 .exact dE (iB _) (jx λe _=>wM e)
 split
 .exact dE (Ae _ _) (ql _)
 .exact kJ
theorem eq101{a b c d:Int}:iH Tryz.prog .eql 101 (.agg ⟨[aD a,aD b]⟩) (.agg ⟨[aD c,aD d]⟩) (a == c&&(b == d&&true)):=(tr (by kernel_rfl)).1
theorem GSyI{gb db j:Nat}{g:Gg}{now:Int}(I:Ag.Ig g j)(d:j<=198)(h:aA H (Q::gateA Q gb db g::F))
  (k:∀Q' ys a c b,aM Q Q'->ys.map Oy.o=(dB g now).2.1->(∀y∈ys,gh Q' y)->aA b (Q'::slA 91 11 a ys.length c (flat bH ys)::gateA Q' gb db (dB g now).1::F)->K (.tuple #[.slice a ys.length c,aD (dB g now).2.2]) b) :
  CF 23 #[PA gb 0,aD now] H K:=by
 obtain⟨was,Ek,E,R,L,n0,kk,I⟩:=I;exact BF I d h k
theorem UU(h:aA H (Q::F))(k:∀Q' H',aM Q Q'->aA H' (Q'::F)->K (.bool true) H'):CF 7 #[] H K:=by
 refine cN 7 0x11d1d11111d1111111111d1d11289 [[(0,sB)]] ?_;have C:=Ag.e17;have hf:Ag.o0.cfg.cells.toNat<=200:=by decide
 refine New_spec h λdb H1 h=>⟨_,rfl,λt=>UY t (by simp),λ_=>?_⟩
 refine BH h λH2 h=>⟨_,_,_,_,_,_,_,_,_,_,_,_,_,rfl,?_⟩
 refine BG (j:=0) (o:=Ag.o0) C hf (xK C) (uL C).1 (uL C).2 (by omega) (h.o [1,0] 2) λQ1 gb ys a c H3 m s0 X r9 E _ N hm _ h=>⟨_,_,_,_,_,rfl,λt=>?_,λ_=>?_⟩
 .exfalso;have hl:ys.length=0:=by
   have N:X=[]:=by simpa using N
   have hk:=E.num.len;have h0:=E.sunk;rw[<-Vl (f:=Oy.o),hm,N,UZ,xH];simp only[emO,List.filter_nil,W9,Vy,List.flatMap_nil]at hk ⊢;omega
  simp[hl]at t
 have h:aA H3 (Q1::slA 91 11 a ys.length c (flat bH ys)::gateA Q1 gb db Ag.g0::F):=h;have h:=h.o [0,2] 3;refine BI (f:=Ag.f1) (x:={}) h (f1_bare.rd _) λa1 c1 H4 h=>⟨_,_,_,rfl,?_⟩
 have T:=h.sl_nc 0 rfl;refine sE (Ag.i0.ok (by omega)).1 (h.o [1,2,0] 3) (λH h=>h.sl_rd 0 rfl) (qJ _) T λU H5 l6 h=>⟨_,rfl,?_⟩
 have h:aA H5 (U::gateA U gb db Ag.A1.1::F):=h.o [0,1] 3;refine⟨_,xF (h.o [1,0] 2),?_⟩;refine B7 (Ag.i1.ok (by omega)).1 (Ag.i1.ok (by omega)).2 h λb a2 c2 H6 M hy2 h=>⟨_,_,_,rfl,?_⟩
 have h:aA H6 (U::slA 91 11 a2 b.length c2 (flat bH b)::gateA U gb db Ag.g2::F):=h;refine GSyI Ag.i2 (by omega) (h.o [0,2,1] 3) λQ3 i a3 c3 H7 hs3 w u8 h=>⟨_,_,_,_,rfl,?_⟩
 have h:aA H7 (Q3::slA 91 11 a3 i.length c3 (flat bH i)::gateA Q3 gb db Ag.A3.1::slA 91 11 a2 b.length c2 (flat bH b)::F):=h;refine UQ (h.o [2,0,1,3] 4) (by rw[Ag.e5];decide) λa4 c4 H8 h=>⟨_,_,_,rfl,?_⟩
 have y2:b.length=1:=by rw[<-Vl (f:=Oy.o),M,Ag.e2]
 have w:i.map Oy.o=[gU (dV 3 1 0)]:=w.trans Ag.e4;have l5:i.length=1:=by rw[<-Vl (f:=Oy.o),w];rfl
 have h7:Ag.A3.1.p.out.length=1:=by rw[Ag.e5];rfl
 refine⟨λt=>?_,λ_=>?_⟩
 .exfalso;simp[y2,l5,h7]at t
 have G:=h.sl_rd 3 rfl;have P:(i[0]'(by omega)).o=gU (dV 3 1 0):=by
  have:(i.map Oy.o)[0]'(by rw[Vl];omega)=(i[0]'(by omega)).o:=VV ..;rw[<-this];simp[w]
 have L:=u8 (i[0]'(by omega)) (Vk _);refine⟨⟨by omega,by omega⟩,_,_,G.some ja (by decide) (k:=0) (by omega),_,_,_,G.el ja (k:=0) (by omega) 10 rfl,?_⟩;refine AU (h.o [2,0,1,3,4] 5) (λH h=>L.kin.at h 0 rfl) (by rw[P];exact qJ (dV 3 1 0)) L.cap ?_
 rw[P,Ag.e18];intro Q4 x evs H9 I hev hkl hsh h;refine⟨_,_,_,_,_,_,_,_,_,_,_,_,_,_,_,_,_,_,_,_,_,rfl,?_⟩;refine h.al λb1 _ h=>?_
 refine h.st 0 rfl rfl λH10 h=>⟨_,h.r 0,_,h.r 0,?_⟩
 have h:aA H10 (cellsA b1 (cH (dV 3 1 0) x) 81::Q4::slA 99 4 x.ea evs.length x.ec (flat cw evs)::slA 101 2 a4 Ag.A3.1.p.out.length c4 (flat jf Ag.A3.1.p.out)::gateA Q3 gb db Ag.A3.1::slA 91 11 a3 i.length c3 (flat bH i)::slA 91 11 a2 b.length c2 (flat bH b)::F):=h;have h:=xG I (h.o [4,1,0,3,6] 7);refine BI (f:=Ag.f2) (x:={}) h (f2_bare.rd _) λa5 c5 H11 h=>⟨_,_,_,rfl,?_⟩
 have u:=h.sl_nc 0 rfl;have h:=h.o [2,1,0,3,4,5] 6;refine sE (Ag.i3.ok (by omega)).1 h (λH h=>h.sl_rd 0 rfl) (qJ _) u λQ5 j1 r0 h=>⟨_,rfl,?_⟩
 have h:aA j1 (Q5::gateA Q5 gb db Ag.A4.1::slA 5 1 a5 (cC Ag.f2).length c5 ((cC Ag.f2).map U8)::cellsA b1 (cH (dV 3 1 0) x) 81::slA 101 2 a4 Ag.A3.1.p.out.length c4 (flat jf Ag.A3.1.p.out)::slA 91 11 a2 b.length c2 (flat bH b)::F):=h;refine sE (Ag.i4.ok (by omega)).1 h (λH h=>h.sl_rd 0 rfl) (qJ _) u λQ6 j3 Y h=>⟨_,rfl,?_⟩
 have h:aA j3 (Q6::gateA Q6 gb db Ag.A5.1::slA 5 1 a5 (cC Ag.f2).length c5 ((cC Ag.f2).map U8)::cellsA b1 (cH (dV 3 1 0) x) 81::slA 101 2 a4 Ag.A3.1.p.out.length c4 (flat jf Ag.A3.1.p.out)::slA 91 11 a2 b.length c2 (flat bH b)::F):=h;refine h.al λb2 _ h=>?_
 refine BI (f:=Ag.f3) (x:={ ea:=some ⟨b2,0,none⟩,ec:=1 }) (evs:=[evE]) h (f3_rd 0 rfl) λa6 c6 H14 h=>⟨_,_,_,rfl,?_⟩
 have D:=h.sl_nc 0 rfl;refine sE (Ag.i5.ok (by omega)).1 (h.o [2,3,0,4,5,6,7] 8) (λH h=>h.sl_rd 0 rfl) (qJ _) D λA h3 h5 h=>⟨_,rfl,?_⟩
 have h:=h.o [0,1,3,4,5,6] 7;have h:aA h3 (A::gateA A gb db Ag.A6.1::slA 5 1 a5 (cC Ag.f2).length c5 ((cC Ag.f2).map U8)::cellsA b1 (cH (dV 3 1 0) x) 81::slA 101 2 a4 Ag.A3.1.p.out.length c4 (flat jf Ag.A3.1.p.out)::slA 91 11 a2 b.length c2 (flat bH b)::F):=h;refine B7 (Ag.i6.ok (by omega)).1 (Ag.i6.ok (by omega)).2 h λd a7 c7 h9 J hy7 h=>⟨_,_,_,rfl,?_⟩
 have h:aA h9 (A::slA 91 11 a7 d.length c7 (flat bH d)::gateA A gb db Ag.g7::slA 5 1 a5 (cC Ag.f2).length c5 ((cC Ag.f2).map U8)::cellsA b1 (cH (dV 3 1 0) x) 81::slA 101 2 a4 Ag.A3.1.p.out.length c4 (flat jf Ag.A3.1.p.out)::slA 91 11 a2 b.length c2 (flat bH b)::F):=h;have hl7:d.length=2:=by rw[<-Vl (f:=Oy.o),J,Ag.e9]
 refine uI (Ag.i7.ok (by omega)).1 (h.o [2,0,1,3,4,5,6] 7) λsb H17 h=>⟨_,rfl,?_⟩
 obtain⟨y,pb,zs,_,_,_,h⟩:=fP.1 (h.o [1,0,2,3,4,5,6,7] 8);have h:=h.o [5,7,8,9,10,11,12,13] 14;have n:=(Ag.i7.ok (by omega)).1.rows;refine Pw (keep:=0) (by decide) (by omega) h λl0 h=>⟨rfl,?_⟩
 have h:aA l0 (diskX db Ag.rows8 Ag.rows8.length::stA A sb Ag.g7.s::A::slA 91 11 a7 d.length c7 (flat bH d)::slA 5 1 a5 (cC Ag.f2).length c5 ((cC Ag.f2).map U8)::cellsA b1 (cH (dV 3 1 0) x) 81::slA 101 2 a4 Ag.A3.1.p.out.length c4 (flat jf Ag.A3.1.p.out)::slA 91 11 a2 b.length c2 (flat bH b)::F):=h;refine BH h λH19 h=>⟨_,_,_,_,_,_,_,_,_,_,_,_,_,rfl,?_⟩
 refine BG (j:=14) (o:=Ag.o0) C hf (Ag.leads8.mono (by omega)) Ag.t8.1 Ag.t8.2 (by omega) (h.o [2,0,1,3,4,5,6,7] 8) λQ8 O B a8 c8 j2 m8 s08 X8 W hE8 _ h8 V _ h=>⟨_,_,_,_,_,rfl,λt=>?_,λ_=>?_⟩
 .exfalso;have hl:3<=B.length:=by
   have N:X8=jr (bS Al.c0) Ag.rs8:=by simpa using h8.symm
   have:=Ag.e22;rw[<-Vl (f:=Oy.o),V,N,UZ,xH];omega
  simp[hl7]at t;omega
 have h:aA j2 (Q8::slA 91 11 a8 B.length c8 (flat bH B)::gateA Q8 O db Ag.g8::stA A sb Ag.g7.s::slA 91 11 a7 d.length c7 (flat bH d)::slA 5 1 a5 (cC Ag.f2).length c5 ((cC Ag.f2).map U8)::cellsA b1 (cH (dV 3 1 0) x) 81::slA 101 2 a4 Ag.A3.1.p.out.length c4 (flat jf Ag.A3.1.p.out)::slA 91 11 a2 b.length c2 (flat bH b)::F):=h;refine uI (Ag.i8.ok (by omega)).1 (h.o [2,0,3,4,5,6,7,8] 9) λh4 H21 h=>⟨_,rfl,λt=>UY t (by simp),λ_=>?_⟩
 refine sE (Ag.i8.ok (by omega)).1 (h.o [2,1,5,0,3,4,6,7,8] 9) (λH h=>h.sl_rd 0 rfl) (qJ _) u λQ9 H22 hs9 h=>⟨_,rfl,?_⟩
 have h:aA H22 (Q9::gateA Q9 O db Ag.A9.1::slA 5 1 a5 (cC Ag.f2).length c5 ((cC Ag.f2).map U8)::stA Q8 h4 Ag.g8.s::stA A sb Ag.g7.s::slA 91 11 a7 d.length c7 (flat bH d)::cellsA b1 (cH (dV 3 1 0) x) 81::slA 101 2 a4 Ag.A3.1.p.out.length c4 (flat jf Ag.A3.1.p.out)::slA 91 11 a2 b.length c2 (flat bH b)::F):=h;refine LZ (Ag.i9.ok (by omega)).1 h λy3 r8 S h=>⟨_,rfl,?_⟩
 intro Jn hJ;have v:=h.sl_rd 8 rfl;have R:=h.sl_rd 7 rfl;have n:=h.sl_rd 5 rfl;have d2:(b[0]'(by omega)).o.kind=1/\(b[0]'(by omega)).o.ag=3:=by
  have e:=Ag.e10;rw[<-M,VM]at e;have:=(List.getElem?_eq_some_iff.1 (show (b.map ((λo:Ou=>(o.kind,o.ag))∘Oy.o))[0]?=some (1,3) by rw[e];rfl)).2
  rw[VV]at this;exact⟨congrArg Prod.fst this,congrArg Prod.snd this⟩
 have d7:(d[0]'(by omega)).o.kind=2/\(d[0]'(by omega)).o.win=1/\(d[1]'(by omega)).o.kind=1:=by
  have e:=Ag.e11;rw[<-J,VM]at e;have h0:=(List.getElem?_eq_some_iff.1 (show (d.map ((λo:Ou=>(o.kind,o.win))∘Oy.o))[0]?=some (2,1) by rw[e];rfl)).2
  have h1:=(List.getElem?_eq_some_iff.1 (show (d.map ((λo:Ou=>(o.kind,o.win))∘Oy.o))[1]?=some (1,0) by rw[e];rfl)).2
  rw[VV]at h0 h1;exact⟨congrArg Prod.fst h0,congrArg Prod.snd h0,congrArg Prod.fst h1⟩
 have d4:(Ag.A3.1.p.out[0]'(by omega)).bt=1/\(Ag.A3.1.p.out[0]'(by omega)).ct=0:=by
  have:Ag.A3.1.p.out[0]'(by omega)=⟨1,0,3,1,12⟩:=by
   have:=(List.getElem?_eq_some_iff.1 (show Ag.A3.1.p.out[0]?=some ⟨1,0,3,1,12⟩ by rw[Ag.e5];rfl)).2;exact this
  rw[this];exact⟨rfl,rfl⟩
 have h6:bD r8 (aV a4) (aS a4+0*2) [aD 1,aD 0]:=by
  have:=R.els (enc:=jf) (sz:=2) (λ_=>rfl) (k:=0) (by omega)
  unfold jf at this;rw[d4.1,d4.2]at this;exact this
 refine⟨λ_=>⟨by omega,by omega⟩,_,_,λ_=>v.some ja (by decide) (k:=0) (by omega),_,λ_=>v.el ja (k:=0) (by omega) 0 rfl,λ_=>⟨by omega,by omega⟩,_,_,λ_=>v.some ja (by decide) (k:=0) (by omega),_,λ_=>v.el ja (k:=0) (by omega) 1 rfl,
  _,λ_=>h.r 6,_,λ_=>h.r 6,λ_=>⟨by omega,by omega⟩,_,_,λ_=>R.some (enc:=jf) (sz:=2) (λ_=>rfl) (by decide) (k:=0) (by omega),_,_,λ_=>h6,_,λ_=>eq101,
  λ_=>⟨by omega,by omega⟩,_,_,λ_=>n.some ja (by decide) (k:=0) (by omega),_,λ_=>n.el ja (k:=0) (by omega) 0 rfl,λ_=>⟨by omega,by omega⟩,_,_,λ_=>n.some ja (by decide) (k:=0) (by omega),_,λ_=>n.el ja (k:=0) (by omega) 7 rfl,
  λ_=>⟨by omega,by omega⟩,_,_,λ_=>n.some ja (by decide) (k:=1) (by omega),_,λ_=>n.el ja (k:=1) (by omega) 0 rfl,_,λ_=>xl (h.o [4] 9),_,λ_=>xl (h.o [3] 9),_,λ_=>Tr (h.o [3] 9),λ_=>?_,λt=>?_⟩
 .refine BH h λH24 h=>⟨_,_,_,_,_,_,_,_,_,_,_,_,_,rfl,?_⟩
  refine Bb (o:=Ag.o0) h λH25 h=>⟨_,rfl,hJ _ _ ?_⟩
  rw[C];exact k y3 _ ((((((((r9.trans l6).trans hs3).trans I).trans r0).trans Y).trans h5).trans W).trans hs9 |>.trans S) (h.o [0] 9)
 .exfalso;have q1:(jd Ag.g0 3 10 (cC Ag.f1)).2=0:=Ag.e1;have q2:(jd Ag.g0 3 10 (cC Ag.f1)).1.pend.length=1:=Ag.e2;have q3:(dB Ag.g2 12).2.2=0:=Ag.e3;have q6:(jd Ag.A3.1 3 14 (cC Ag.f2)).2=0:=Ag.e6;have q7:(jd Ag.A4.1 3 14 (cC Ag.f2)).2=19:=Ag.e7;have q8:(jd Ag.A5.1 3 16 (cC Ag.f3)).2=0:=Ag.e8;have h2:(jd Ag.g8 3 20 (cC Ag.f2)).2=22:=Ag.e15;have Z:Ag.A1.1.pend.length=1:=Ag.e2;simp[q1,q2,Z,q3,q6,q7,q8,h2,d2,d7,Ag.e12,Ag.e13,Ag.e14,Ag.e16,dV]at t
end
structure GcH(H0:aC)(x:li):Prop where
 rd:aP H0 x.a (x.bs.map U8)
 by':aH x.bs
 keep:aF x.keep
theorem gcK_old{H0:aC}{a:KQ}{xs:List li}(e:xs.length<=maxLen)(d:aP H0 a (flat lj xs))(c:∀x∈xs,GcH H0 x):GcK (old H0) a xs:=
 ⟨KIn.old d,λx b=>KIn.old (c x b).rd,λx b=>⟨(c x b).by',(c x b).keep⟩,e⟩
theorem few_of{o:Opt}(h:grC o.cfg 0=false):o.cfg.cells.toNat<=200\/fg o=false:=by
 cases ho:fg o with
 | false=>exact .inr rfl
 | true=>
  refine .inl (UA (xs:=[]) (Mp ho) ?_);simp[grR,h]
theorem stpG_len(g:Gg)(now:Int):(dB g now).2.1.length<=64:=by
 unfold dB
 split
 .simp
 .have key:∀s p n,(dJ s now g.o.period p n).2.length<=n:=by
   intro s p n
   induction n with
   | zero=>simp[dJ]
   | succ n ih=>
    rw[dJ]
    split
    .rw [UZ];simp only[Vf,Vy];omega
    .omega
  exact key _ _ 64
theorem stpG_by(g:Gg)(now:Int):∀o∈(dB g now).2.1,aH o.bs:=by
 unfold dB
 split
 .intro o a;cases a
 .have key:∀s p n,∀o∈(dJ s now g.o.period p n).2,aH o.bs:=by
   intro s p n
   induction n with
   | zero=>intro o a;cases a
   | succ n ih=>
    rw[dJ]
    split
    .intro o a
     rcases Vz.1 a with a|a
     .exact ih o a
     .rw [Vo]at a;subst a;exact qJ _
    .exact ih
  exact key _ _ 64
theorem decQ_by{g:Gg}{now:Int}{ys:List Oy}(hm:ys.map Oy.o=(dB g now).2.1){y:Oy}(a:y∈ys):aH y.o.bs:=stpG_by g now _ (by rw[<-hm];exact Vh.2 ⟨y,a,rfl⟩)
theorem UV{α:Type}{xs:List α}{j:Nat}(h:j<xs.length):xs[j]∈xs:=Vk h
section
variable {F L:List aE}{H:aC}{K:KE}{Q:aE}{gb db:Nat}{g:Gg}{o:Opt}
theorem BJ(c:g.rows.length<=549755813888)(h:aA H (gateA Q gb db g::F))(k:∀a,aA a (gateA Q gb db g::F)->K (aD ((g.rows.length:Int)-g.syn)) a):CF 27 #[PA db 0] H K:=by
 obtain⟨x,pb,ys,e1,e2,e3,h⟩:=fP.1 h;exact zq (by omega) (h.o [5,0,1,2,3,4,6] 7) λb h=>k b (fP.2 ⟨x,pb,ys,e1,e2,e3,h.o [1,2,3,4,5,0,6] 7⟩)
theorem BK{sb:Nat}{s:aI}(R:Rch s)(d:s.kept.length<=50000)(h:aA H (Q::stA Q sb s::F))(k:∀a c b,aA b (slA 5 1 a (stB s).length c ((stB s).map U8)::Q::stA Q sb s::F)->K (.slice a (stB s).length c) b):CF 17 #[PA sb 0] H K:=
 Bi R.ok R.ser d h k
end
theorem GateQuiet_true{H0:aC}{o:Opt}{ca:KQ}{cc:Nat}{xs:List li}(h8:xs.length<=maxLen)(hr:aP H0 ca (flat lj xs))(hxs:∀x∈xs,GcH H0 x) :
  CF 5 #[.agg ⟨gV o⟩,.slice ca xs.length cc] H0 λv w=>v=.bool true/\dC H0 w:=by
 have j2:=gcK_old h8 hr hxs;refine OH ?_;refine (sat0 H0).al λb _ h=>?_
 refine UU (mV h) λQ1 H1 O h=>⟨_,rfl,λhc=>by simp at hc,λ_=>?_⟩
 have Z:=j2.sub O;refine⟨_,_,_,_,_,_,_,_,_,_,_,_,_,h.q 1,?_⟩;refine UO (o:=o) (xs:=xs) h Z λH2 h=>⟨_,rfl,λhg=>⟨rfl,B3 O h⟩,λhg=>?_⟩
 obtain⟨g1,g2,g3⟩:=grG_no hg;refine⟨_,_,_,_,_,_,_,_,_,_,_,_,_,h.q 1,?_⟩;refine UT (o:=o) (few_of g2) h (λhn H3 h=>⟨_,_,rfl,λ_=>?_,λe=>UY e (by simp)⟩) λho Q2 gb db H3 hs2 h=>⟨_,_,rfl,λe=>UY e (by simp),λ_=>?_⟩
 .refine⟨_,_,_,_,_,_,_,_,_,_,_,_,_,h.q 1,?_⟩;refine OfO_spec (o:=o) h λH4 h=>⟨_,_,_,_,_,_,_,_,_,_,_,_,_,rfl,?_⟩
  refine R25Right (o:=o) h λH5 h=>⟨_,rfl,?_⟩
  exact⟨by rw[hn];rfl,B3 O h⟩
 have hf:o.cfg.cells.toNat<=200:=by
  rcases few_of g2 with h|h
  .exact h
  .rw [ho]at h;cases h
 obtain⟨L0,I0⟩:=BC ho hf (xK ho) (uL ho).1 (by omega);refine⟨λi w=>∃(j:Nat) (Q':aE) (g:Gg) (was:List aI) (Ek E:List cu) (R:DR) (LL:LG) (n0:Int) (k:Nat),i=j/\j<=xs.length/\aM Q1 Q'/\GI g (2+3*j) was Ek E R LL n0 k/\aA w (Q'::gateA Q' gb db g::cellsA b (gV o) 25::[]),
  λi _=>xs.length-i.toNat,⟨0,Q2,_,_,_,_,_,_,_,_,rfl,by omega,hs2,I0,h⟩,?_⟩
 rintro i H4 ⟨j,C,g,was,Ek,E,R,LL,n0,kk,rfl,hj,V,I,h⟩;refine⟨λe=>?_,λe=>⟨rfl,B3 (O.trans V) h⟩⟩
 have N:j<xs.length:=by simpa using e
 have T:=Z.sub V;have h9:=T.row.at h 0 rfl;have hw:i64.wrap ((j:Int)+1)=((j+1:Nat):Int):=by rw[aJ];omega
 intro Jn hJ;refine⟨⟨by omega,by omega⟩,_,_,h9.some uK (by decide) N,_,_,_,_,_,_,_,_,h9.els uK N,?_⟩;have M:=UV N;obtain⟨x,ex⟩:∃x,xs[j]=x:=⟨_,rfl⟩;rw[ex]at M ⊢;have hxb:=T.bs x M;have hxo:=T.ok x M;have hx3:=g3 x M;refine h.al λb2 _ h=>?_
 refine h.st 0 rfl rfl λH5 h=>?_
 have h:aA H5 (cellsA b2 (lj x) 45::C::gateA C gb db g::cellsA b (gV o) 25::[]):=h;have ok:=I.ok (by omega);refine uI ok (h.o [2,0,1,3] 4) λsb H6 h=>⟨_,rfl,?_⟩
 refine⟨_,xF (h.o [1,0] 4),?_⟩;refine BJ ok.rows (h.o [1,0,2,3,4] 5) λH7 h=>⟨_,rfl,λe=>UY e (by simp),λ_=>?_⟩
 refine BK ok.R (by have:=ok.kept;omega) (h.o [3,1,0,2,4] 5) λba bc H8 h=>⟨_,_,_,rfl,_,h.r 4,?_⟩
 have h:=h.o [1,3,0,4,5,2] 6;intro r8 u8;have go:∀(t:Bool) H9,aA H9 (C::gateA C gb db g::slA 5 1 ba (stB g.s).length bc ((stB g.s).map U8)::cellsA b2 (lj x) 45::cellsA b (gV o) 25::stA C sb g.s::[])->(t=true↔x.what=0\/x.what=2)->r8 t H9:=by
  intro t H9 h ht;refine u8 _ _ ?_;intro l5 y3;have next:∀(Q':aE) (A:Gg) (n:List aI) (D K:List cu) (W:DR) (B:LG) (G:Int) (k' j':Nat) w,aM C Q'->GI A j' n K D W B G k'->j'<=2+3*j+3->aA w (Q'::gateA Q' gb db A::cellsA b (gV o) 25::[])->Jn w:=by
   intro Q' A n D K W B G k' j' w hs I' hj' h;have I2:GI A (2+3*(j+1)) n K D W B G k':=by
    obtain⟨d,hd⟩:∃d,2+3*(j+1)=j'+d:=⟨2+3*(j+1)-j',by omega⟩;rw[hd]
    clear hd
    induction d with
    | zero=>exact I'
    | succ d ih=>exact ih.mono
   exact hJ _ ⟨⟨j+1,Q',A,n,K,D,W,B,G,k',hw,N,V.trans hs,I2,h⟩,by rw[hw];dsimp only;omega⟩
  have Y:∀(y:Bool) (Q':aE) (A:Gg) (n:List aI) (D:List cu) (B:LG) w,aM C Q'->GI A (2+3*j+1) n Ek D R B n0 kk->A.syn=g.syn->(y=true->g.rows.length<A.rows.length)->(y=false->A.s=g.s/\A.pend=g.pend/\A.rows=g.rows)->
    aA w (Q'::gateA Q' gb db A::slA 5 1 ba (stB g.s).length bc ((stB g.s).map U8)::cellsA b2 (lj x) 45::cellsA b (gV o) 25::stA C sb g.s::[])->l5 y w:=by
   intro y Q' A n D B w hs I' h5 h6 hno h;have m:=I'.ok (by omega);refine y3 _ _ ?_;refine uI m (h.o [1,0,2,3,4,5] 6) λl6 U h=>⟨_,rfl,?_⟩
   intro Jn3 j3;have fin:∀(t:Bool) w,t=false->aA w (gateA Q' gb db A::Q'::slA 5 1 ba (stB g.s).length bc ((stB g.s).map U8)::cellsA b2 (lj x) 45::cellsA b (gV o) 25::stA C sb g.s::[])->Jn3 t w:=λt w ht h=>
    j3 _ _ ⟨λe=>UY e (by rw[ht];simp),λ_=>next Q' A n D Ek R B n0 kk _ _ hs I' (by omega) (h.o [1,0,4] 6)⟩
   cases y with
   | true=>
    have hlt2:=h6 rfl;refine⟨λ_=>?_,λe=>by simp at e⟩
    refine BJ m.rows (h.o [1,2,3,4,5,6] 7) λQ h=>⟨_,rfl,λe=>UY e.2 (by simp),λ_=>fin _ _ ?_ h⟩
    simp;omega
   | false=>
    obtain⟨l0,j1,r9⟩:=hno rfl;refine⟨λe=>UY e.2 (by simp),λ_=>⟨λ_=>?_,λe=>by simp at e⟩⟩
    refine BK m.R (by have:=m.kept;omega) (h.o [2,0,1,3,4,5,6] 7) λr0 S Q h=>⟨_,_,_,rfl,?_⟩
    have P:=EU (c:=S) (d:=bc) (h.sl_rd 0 rfl) (h.sl_rd 4 rfl) (by have:=xE m.R.ok m.R.ser (by have:=m.kept;omega);omega);refine⟨_,P,_,λ_=>xF (h.o [3,0,1,2,4] 8),λ_=>?_,λe=>?_⟩
    .refine BJ m.rows (h.o [3,1,4,5,6,7] 8) λh7 h=>⟨_,rfl,fin _ _ ?_ h⟩
     rw[h5,r9];simp
    .rw [l0,j1]at e;simp at e
  refine⟨λhtt=>?_,λhtf=>⟨λh1=>?_,λh1=>?_⟩⟩
  .obtain⟨D,B,a1,a2,a3,a4,a5⟩:=do_calls (x:=x) I (by omega);refine⟨_,_,_,_,_,_,_,_,h.q 3,?_⟩;refine Do_spec (x:=x) I (by omega) h hxb hxo.1 hx3 λQ' U hs h=>⟨_,rfl,?_⟩
   exact Y _ Q' _ _ D B _ hs a1 a2 (λJ=>a4 (Va J)) (λJ=>a5 (Vb J)) h
  .obtain⟨D,B,a1,a2,a3,a4,a5,a6⟩:=I.step (by omega) x.now;refine⟨_,h.r 3,?_⟩;refine BF I (by omega) h λQ' ys a c U hs hm J h=>⟨_,_,_,_,rfl,?_⟩
   refine⟨λk w=>∃(q:Nat) (Q'':aE),k=q/\q<=ys.length/\aM Q' Q''/\aA w (Q''::slA 91 11 a ys.length c (flat bH ys)::gateA Q' gb db (dB g x.now).1::slA 5 1 ba (stB g.s).length bc ((stB g.s).map U8)::cellsA b2 (lj x) 45::cellsA b (gV o) 25::stA C sb g.s::[]),
    λk _=>ys.length-k.toNat,⟨0,Q',rfl,by omega,aM.refl _,h⟩,?_⟩
   rintro k Q ⟨q,Q4,rfl,hq,L,h⟩;refine⟨λe=>?_,λe=>?_⟩
   .have u:q<ys.length:=by simpa using e
    have F:=h.sl_rd 1 rfl;have h4:=(J _ (Vk u)).sub L;obtain⟨f0,f,f1,f2,f3,f4⟩:=a6 ys[q].o (by rw[<-hm];exact Vh.2 ⟨_,Vk u,rfl⟩);have hyl:ys.length<=64:=by
     rw[<-Vl (f:=Oy.o),hm];exact stpG_len g x.now
    have h2:i64.wrap ((q:Int)+1)=((q+1:Nat):Int):=by rw[aJ];omega
    refine⟨⟨by omega,by omega⟩,_,_,F.some ja (by decide) u,_,_,_,F.el ja u 10 rfl,?_⟩;refine AU h (λH h=>h4.kin.at h 0 rfl) (decQ_by hm (Vk u)) h4.cap ?_
    rw[f1];intro Q5 x5 evs h7 hs5 hev hkl hsh h;refine⟨_,_,_,_,_,_,_,_,_,_,_,_,_,_,_,_,_,_,_,_,_,rfl,?_⟩;refine h.al λb4 _ h=>?_
    refine h.st 0 rfl rfl λy2 h=>?_
    have h:aA y2 (cellsA b4 (cH f x5) 81::Q5::slA 99 4 x5.ea evs.length x5.ec (flat cw evs)::slA 91 11 a ys.length c (flat bH ys)::gateA Q' gb db (dB g x.now).1::slA 5 1 ba (stB g.s).length bc ((stB g.s).map U8)::cellsA b2 (lj x) 45::cellsA b (gV o) 25::stA C sb g.s::[]):=h;have F:=h.sl_rd 3 rfl;refine⟨⟨by omega,by omega⟩,_,_,F.some ja (by decide) u,_,F.el ja u 0 rfl,_,λ_=>h.r 0,_,λ_=>h.r 0,_,λ_=>xl (h.o [8,0] 9),λe=>?_,λ_=>?_⟩
    .exfalso;simp[f0,f2,f3]at e
    .exact⟨⟨q+1,Q5,h2,u,L.trans hs5,h.o [1,3,4,5,6,7,8] 9⟩,by rw[h2];dsimp only;omega⟩
   .have h:=xG L (h.o [2,0,3,4,5,6] 7);exact Y _ Q4 _ _ D B _ (hs.trans L) a1 a2 (λJ=>a4 (Va J)) (λJ=>a5 (Vb J)) (mV h)
  .have h1:=Vb h1;refine⟨λh3=>?_,λh3=>?_⟩
   .obtain⟨W,B,G,k',i1,i2,i3,i4⟩:=I.sync (by omega);refine B7 ok I.ti.files h λys a c U hm J h=>⟨_,_,_,rfl,?_⟩
    have m:=i1.ok (by omega);refine uI m (h.o [2,0,3,4,5,6] 7) λl6 Q h=>⟨_,rfl,?_⟩
    intro Jn4 hJ4;refine⟨λ_=>?_,λe=>UY rfl e⟩
    refine BK m.R (by have:=m.kept;omega) (h.o [2,0,1,3,4,5,6] 7) λr0 S h7 h=>⟨_,_,_,rfl,?_⟩
    have P:=EU (c:=S) (d:=bc) (h.sl_rd 0 rfl) (h.sl_rd 4 rfl) (by have:=xE m.R.ok m.R.ser (by have:=m.kept;omega);omega);refine⟨_,P,_,λ_=>xF (h.o [3,0,1,2,4] 8),hJ4 _ _ ⟨λe=>?_,λ_=>?_⟩⟩
    .exfalso;rw[i2,i4]at e;simp at e
    .exact next C _ _ _ _ _ _ _ _ _ _ (aM.refl _) i1 (by omega) (h.o [1,3,6] 8)
   .exact next C g was E Ek R LL n0 kk _ _ (aM.refl _) I (by omega) (h.o [0,1,4] 6)
 refine⟨λh0=>go _ _ h ?_,λh0=>go _ _ h ?_⟩
 .have h0:=Va h0;simp[h0]
 .have h0:=Vb h0;simp[h0]
section
variable {H:Type}{enc:TypeId×Value->H}{W:World}
theorem reads_opt{cs:Os}(h:kI enc Tryz.prog W 25 cs):∃o:Opt,cs=gV o:=by
 obtain⟨d,c⟩:=yD Tryz.underlying25 h;have c2:Tryz.prog.cellsOf 2=1:=by kernel_rfl
 have c3:Tryz.prog.cellsOf 3=1:=by kernel_rfl
 have a:Tryz.prog.cellsOf 23=9:=by kernel_rfl
 have b:Tryz.prog.cellsOf 25=13:=by kernel_rfl
 rw[b]at d;simp only[Vm,We,or_false,forall_eq_or_imp,forall_eq,c2,c3,a]at c;obtain⟨f1,f2,f3,f4,f5⟩:=c
 match cs,d with
 | [x1,x2,x3,x4,x5,x6,x7,x8,x9,x10,x11,x12,x13],_=>
  simp only[List.drop_zero,Wo,W4,Ya]at f1 f2 f3 f4 f5;obtain⟨cf,e1⟩:=U6 f1;obtain⟨n2,e2,_,_⟩:=iq Tryz.underlying2 f2;obtain⟨n3,e3,_,_⟩:=iq Tryz.underlying3 f3;obtain⟨n4,e4,_,_⟩:=iq Tryz.underlying3 f4;obtain⟨n5,e5,_,_⟩:=iq Tryz.underlying3 f5;simp only[List.cons.injEq,and_true]at e1 e2 e3 e4 e5;obtain⟨rfl,rfl,rfl,rfl,rfl,rfl,rfl,rfl,rfl⟩:=e1;subst e2 e3 e4 e5;exact⟨⟨cf,n2,n3,n4,n5⟩,rfl⟩
theorem reads_calls{cs:Os}(h:kI enc Tryz.prog W 26 cs):∃a c xs,cs=[.slice a (List.length xs) c]/\xs.length<=maxLen/\aP W.heap a (flat lj xs)/\∀x∈xs,GcH W.heap x:=by
 refine Ei (ec:=lj) (Q:=GcH W.heap) Tryz.underlying26 (sz:=6) (by kernel_rfl) (by decide) h (λj f e=>?_) uK
 obtain⟨_,d⟩:=yD Tryz.underlying45 f;have c2:Tryz.prog.cellsOf 2=1:=by kernel_rfl
 have c3:Tryz.prog.cellsOf 3=1:=by kernel_rfl
 have b:Tryz.prog.cellsOf 43=1:=by kernel_rfl
 simp only[Vm,We,or_false,forall_eq_or_imp,forall_eq,c2,c3,b]at d;obtain⟨f1,f2,f3,f4,f5,f6⟩:=d
 match j,e with
 | [x1,x2,x3,x4,x5,x6],_=>
  simp only[List.drop_zero,Wo,W4,Ya]at f1 f2 f3 f4 f5 f6;obtain⟨n1,e1,_,_⟩:=iq Tryz.underlying3 f1;obtain⟨n2,e2,_,_⟩:=iq Tryz.underlying2 f2;obtain⟨n3,e3,_,_⟩:=iq Tryz.underlying2 f3;obtain⟨n4,e4,_,_⟩:=iq Tryz.underlying2 f4;obtain⟨n5,e5,b1,b2⟩:=iq Tryz.underlying3 f5;obtain⟨a,c,bs,e6,_,i,hb⟩:=reads_bs f6;simp only[List.cons.injEq,and_true]at e1 e2 e3 e4 e5 e6;subst e1 e2 e3 e4 e5 e6;exact⟨⟨n1,n2,n3,n4,n5,a,c,bs⟩,rfl,i,hb,⟨b1,b2⟩⟩
end
end Go.Proofs.YtaaieblnikcndaaGreatDoor
