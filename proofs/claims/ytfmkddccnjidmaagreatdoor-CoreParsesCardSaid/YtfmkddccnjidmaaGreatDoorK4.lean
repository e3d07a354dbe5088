/-
  Lemmas for CoreParses: part 4 of what it rests on. Conditions: none.
-/
import Derived.Test.YtfmkddccnjidmaaGreatDoorK3
set_option linter.unusedVariables false
set_option linter.unusedSimpArgs false
set_option maxRecDepth 100000
open Go.IntKind (i64 u64 i8 u8 i32 u32 i16 u16)
namespace Go.Nm
structure Cfg where
 width:Int
 policy:Int
 most:Int
 lag:Int
 rho:Int
 trust:Int
 agents:Int
 cells:Int
 hold:Int
abbrev Cfg.gd (c:Cfg):Gd:=⟨c.width,c.policy,c.most⟩
abbrev qrq (c:Cfg):List Value:=[I64 c.width,I64 c.policy,I64 c.most,I64 c.lag,I64 c.rho,I64 c.trust,I64 c.agents,I64 c.cells,I64 c.hold]
structure Str where
 ck:Ck
 hs:HS Pv
 last:Int
structure Sta where
 cfg:Cfg
 now:Int
 boots:Int
 sunk:Int
 rows:List En
 ms:MS
 cm:CM
 sts:List (Option Str)
 kept:List Ot
section
variable {α:Type}
def tabP:Nat→List (Option α)→List (Int × Option α)
 | _,[]=>[]
 | i,none::r=>tabP (i+1) r
 | i,some b::r=>((i:Int),some b)::tabP (i+1) r
theorem qfu:∀{l:List (Option α)} {i:Nat} {p:Int × Option α},p∈tabP i l→(i:Int)≤p.1∧p.1 < i+l.length
 | [],i,p,h=>by simp [tabP] at h
 | none::r,i,p,h=>by
  have ih:=qfu (l:=r) (i:=i+1) h;simp only [z59]; omega
 | some b::r,i,p,h=>by
  simp only [z59]
  rcases z5l.1 h with rfl|h
  ·simp only; omega
  ·have ih:=qfu (l:=r) (i:=i+1) h;omega
theorem qh1 {l:List (Option α)}{i k:Nat}(h:k < i):((k:Nat):Int)∉q03 (tabP i l):=fun hm=>by
 obtain⟨p,hp,he⟩:=z5b.1 hm;have:=qfu hp; omega
theorem qfv:∀{l:List (Option α)} {i k:Nat},q08 ((i+k:Nat):Int) (tabP i l)=match l[k]? with|some (some b)=>some (some b)|_=>none
 | [],i,k=>by simp [tabP,q08]
 | none::r,i,0=>by
  simp only [List.getElem?_cons_zero];exact q0g.2 (qh1 (l:=r) (by omega))
 | some b::r,i,0=>by simp [tabP,q08]
 | none::r,i,k+1=>by
  have ih:=qfv (l:=r) (i:=i+1) (k:=k);rw [show i+1+k=i+(k+1) by omega] at ih;simp only [tabP,List.getElem?_cons_succ];exact ih
 | some b::r,i,k+1=>by
  have ih:=qfv (l:=r) (i:=i+1) (k:=k);rw [show i+1+k=i+(k+1) by omega] at ih;simp only [tabP,List.getElem?_cons_succ,q08];rw [if_neg (by omega)];exact ih
theorem qn4 {β:Type}{k:Int}{l:List (Int × β)}(h:k∉q03 l):mdel k l=l:=q17 (q0g.2 h)
theorem qpb {b:α}:∀{l:List (Option α)} {i k:Nat},k < l.length→(tabP i (l.set k (some b))).Perm (mset ((i+k:Nat):Int) (some b) (tabP i l))
 | none::r,i,0,_=>by
  simp only [z7g,tabP];unfold mset;rw [qn4 (qh1 (by omega))];exact .refl _
 | some c::r,i,0,_=>by
  simp only [z7g,tabP];unfold mset;have:mdel ((i+0:Nat):Int) (((i:Int),some c)::tabP (i+1) r)=mdel ((i+0:Nat):Int) (tabP (i+1) r):=by simp [mdel]
  rw [this,qn4 (qh1 (by omega))];exact .refl _
 | none::r,i,k+1,h=>by
  have ih:=qpb (b:=b) (l:=r) (i:=i+1) (k:=k) (by simpa using h);rw [show i+1+k=i+(k+1) by omega] at ih;exact ih
 | some c::r,i,k+1,h=>by
  have ih:=qpb (b:=b) (l:=r) (i:=i+1) (k:=k) (by simpa using h);rw [show i+1+k=i+(k+1) by omega] at ih;simp only [z7w,tabP];refine (ih.cons _).trans ?_;unfold mset;have:mdel ((i+(k+1):Nat):Int) (((i:Int),some c)::tabP (i+1) r)=((i:Int),some c)::mdel ((i+(k+1):Nat):Int) (tabP (i+1) r):=by
   have hne:¬(i:Int)=((i+(k+1):Nat):Int):=by omega
   simp [mdel,z6b,hne];omega
  rw [this];exact .swap _ _ _
end
abbrev ptV (p:Option Nat):Value:=match p with|some b=>PA b 0|none=>.pointer none
end Go.Nm
namespace Go.Proofs.YtfmkddccnjidmaaGreatDoor
open Go.Nm
theorem z3e:MapT Tryz.prog 113 2 146 ptV none:=qjs Tryz.underlying113 (by kernel_rfl)
def strA (Q:Assn)(b:Nat)(s:Str):Assn:=exS fun p:Nat × Nat=>star [cellsA b [PA p.1 0,PA p.2 0,I64 s.last] 149,ckA p.1 s.ck,hldA Q p.2 s.hs]
def strsA (Q:Assn):List (Option Nat)→List (Option Str)→Assn
 | some b::bs,some s::ss=>strA Q b s*strsA Q bs ss
 | _::bs,_::ss=>strsA Q bs ss
 | _,_=>emp
theorem qd6 {Q:Assn}{b:Nat}{s:Str}:∀{bl:List (Option Nat)} {sts:List (Option Str)} {k:Nat},bl[k]?=some none→sts[k]?=some none→
  strA Q b s*strsA Q bl sts=strsA Q (bl.set k (some b)) (sts.set k (some s))
 | [],_,k,h,_=>by simp at h
 | _::_,[],k,_,h=>by simp at h
 | x::bs,y::ss,0,h1,h2=>by
  simp at h1 h2; subst h1; subst h2; rfl
 | none::bs,y::ss,k+1,h1,h2=>qd6 (bl:=bs) (sts:=ss) (k:=k) (by simpa using h1) (by simpa using h2)
 | some x::bs,none::ss,k+1,h1,h2=>qd6 (bl:=bs) (sts:=ss) (k:=k) (by simpa using h1) (by simpa using h2)
 | some x::bs,some y::ss,k+1,h1,h2=>by
  have ih:=qd6 (Q:=Q) (b:=b) (s:=s) (bl:=bs) (sts:=ss) (k:=k) (by simpa using h1) (by simpa using h2);show strA Q b s*(strA Q x y*strsA Q bs ss)=strA Q x y*strsA Q (bs.set k (some b)) (ss.set k (some s));rw [← ih,← q28,qcg (strA Q b s),q28]
theorem qrr {Q:Assn}:∀{n:Nat},strsA Q (List.replicate n none) (List.replicate n none)=emp
 | 0=>rfl
 | n+1=>qrr (n:=n)
section
variable {F L:List Assn} {H:Heap} {K KP:Value→Heap→Prop} {Q Q':Assn}
theorem q1n {b:Nat}{s:Str}:SatL H (strA Q b s::F)↔∃cb hb,SatL H (cellsA b [PA cb 0,PA hb 0,I64 s.last] 149::ckA cb s.ck::hldA Q hb s.hs::F):=by
 constructor
 ·intro h;obtain⟨⟨cb,hb⟩,h⟩:=q0r.1 h;exact⟨cb,hb,SatL.open (A:=[_,_,_]) h⟩
 ·rintro⟨cb,hb,h⟩;exact q0r.2 ⟨(cb,hb),SatL.shut [_,_,_] h⟩
theorem strA_sub {b:Nat}{s:Str}(hs:Sub Q Q')(h:SatL H (strA Q b s::F)):SatL H (strA Q' b s::F):=by
 obtain⟨cb,hb,h⟩:=q1n.1 h;have h:=h.o [2,0,1] 3;have h:=qp4 hs h;exact q1n.2 ⟨cb,hb,h.o [1,2,0] 3⟩
theorem qc2 (hs:Sub Q Q'):∀{bl:List (Option Nat)} {sts:List (Option Str)} {F:List Assn},SatL H (strsA Q bl sts::F)→SatL H (strsA Q' bl sts::F)
 | [],_,F,h=>h
 | none::_,[],F,h=>h
 | some _::_,[],F,h=>h
 | none::bs,y::ss,F,h=>qc2 (bl:=bs) (sts:=ss) hs h
 | some x::bs,none::ss,F,h=>qc2 (bl:=bs) (sts:=ss) hs h
 | some x::bs,some y::ss,F,h=>by
  have h:SatL H (strA Q x y::strsA Q bs ss::F):=q2m.1 h;have h:=strA_sub hs h;have h:=h.o [1,0] 2;have h:=qc2 (bl:=bs) (sts:=ss) hs h;have h:=h.o [1,0] 2;exact q2m.2 h
def strmA (Q:Assn)(tm:Nat)(sts:List (Option Str)):Assn:=exS fun bl:List (Option Nat)=>star [mapA I64 ptV tm (tabP 0 bl),strsA Q bl sts,pur (bl.map Option.isSome=sts.map Option.isSome)]
abbrev qhy (Q:Assn)(bl:List (Option Nat))(sts:List (Option Str))(k:Nat):Assn:=strsA Q (bl.set k none) (sts.set k none)
structure Hole (bl:List (Option Nat))(sts:List (Option Str))(k b:Nat):Prop where
 lt:k < sts.length
 m:bl.map Option.isSome=sts.map Option.isSome
 at_:bl[k]?=some (some b)
theorem q74 {tm:Nat}{sts:List (Option Str)}:SatL H (strmA Q tm sts::F)↔∃bl,bl.map Option.isSome=sts.map Option.isSome∧SatL H (mapA I64 ptV tm (tabP 0 bl)::strsA Q bl sts::F):=by
 constructor
 ·intro h;obtain⟨bl,h⟩:=q0r.1 h;have h:=SatL.open (A:=[_,_,_]) h;have hp:=SatL.consP (h.o [2,0,1] 3);exact⟨bl,hp.1,hp.2⟩
 ·rintro⟨bl,hp,h⟩;exact q0r.2 ⟨bl,SatL.shut [_,_,_] ((h.pur hp).o [1,2,0] 3)⟩
theorem qfw {bl:List (Option Nat)}{sts:List (Option Str)}(h:bl.map Option.isSome=sts.map Option.isSome)(k:Nat):(bl[k]?).map Option.isSome=(sts[k]?).map Option.isSome:=by
 rw [← List.getElem?_map,← List.getElem?_map,h]
theorem q96 {tm k:Nat}{sts:List (Option Str)}{s:Str}(h:SatL H (strmA Q tm sts::F))(hk:sts[k]?=some (some s)) :
  ∃b bl,Hole bl sts k b∧SatL H (mapA I64 ptV tm (tabP 0 bl)::strA Q b s::qhy Q bl sts k::F):=by
 obtain⟨bl,hm,h⟩:=q74.1 h;have hlt:k < sts.length:=(List.getElem?_eq_some_iff.1 hk).1;have hbl:bl.length=sts.length:=by have:=congrArg List.length hm; simpa using this
 have h1:=qfw hm k;rw [hk,List.getElem?_eq_getElem (show k < bl.length by omega)] at h1;simp only [z62,Option.isSome_some,Option.some.injEq] at h1;obtain⟨b,hb⟩:=z81.1 h1;have hb':bl[k]?=some (some b):=by rw [List.getElem?_eq_getElem (show k < bl.length by omega),hb]
 refine⟨b,bl,⟨hlt,hm,hb'⟩,?_⟩;have e:=qd6 (Q:=Q) (b:=b) (s:=s) (bl:=bl.set k none) (sts:=sts.set k none) (k:=k) (by rw [List.getElem?_set_self (by omega)]) (by rw [List.getElem?_set_self (by omega)]);rw [List.set_set,List.set_set] at e;have e1:bl.set k (some b)=bl:=by rw [← hb,z79]
 have e2:sts.set k (some s)=sts:=by
  have:sts[k]=some s:=by rw [List.getElem?_eq_getElem hlt] at hk; exact Option.some.inj hk
  rw [← this,z79]
 rw [e1,e2] at e;rw [← e] at h;have h:=h.o [1,0] 2;have h:=q2m.1 h;exact h.o [2,0,1] 3
theorem qaq {tm k b:Nat}{bl:List (Option Nat)}{sts:List (Option Str)}{s:Str}(o:Hole bl sts k b)(h:SatL H (mapA I64 ptV tm (tabP 0 bl)::strA Q b s::qhy Q bl sts k::F)) :
  SatL H (strmA Q tm (sts.set k (some s))::F):=by
 have hbl:bl.length=sts.length:=by have:=congrArg List.length o.m; simpa using this
 have hlt:=o.lt;have e:=qd6 (Q:=Q) (b:=b) (s:=s) (bl:=bl.set k none) (sts:=sts.set k none) (k:=k) (by rw [List.getElem?_set_self (by omega)]) (by rw [List.getElem?_set_self (by omega)]);rw [List.set_set,List.set_set] at e;have hb:bl[k]'(by omega)=some b:=by have:=o.at_; rw [List.getElem?_eq_getElem (by omega)] at this; exact Option.some.inj this
 have e1:bl.set k (some b)=bl:=by rw [← hb,z79]
 rw [e1] at e;refine q74.2 ⟨bl,?_,?_⟩
 ·rw [o.m,List.map_set];have h1:=qfw o.m k;rw [o.at_,List.getElem?_eq_getElem hlt] at h1;simp only [z62,Option.isSome_some,Option.some.injEq] at h1;have:(sts.map Option.isSome)[k]'(by simpa using hlt)=true:=by simp [← h1]
  rw [Option.isSome_some,← this,z79]
 ·rw [← e];have h:=h.o [1,2,0] 3;have h:=q2m.2 h;exact h.o [1,0] 2
theorem qc3 {tm k b:Nat}{bl:List (Option Nat)}{sts:List (Option Str)}(o:Hole bl sts k b)(h:SatL H F)(i:Nat)(hA:nth i F=mapA I64 ptV tm (tabP 0 bl)) :
  q09 Tryz.prog (Instr.lookup 113 (.map (some tm)) (I64 (k:Int)) false) H (PA b 0):=by
 have hl:=qfv (l:=bl) (i:=0) (k:=k);rw [o.at_,z5p] at hl;exact ((h.mp_look (x:=((k:Nat):Int)) z3e ko2 i hA).1 _ hl).2
theorem z3f {tm:Nat}{a:Int}{sts:List (Option Str)}(h:SatL H (strmA Q tm sts::F))(hk:a < 0∨sts[a.toNat]?=some none∨sts[a.toNat]?=none) :
  q09 Tryz.prog (Instr.lookup 113 (.map (some tm)) (I64 a) false) H (.pointer none):=by
 obtain⟨bl,hm,h⟩:=q74.1 h;have hn:q08 a (tabP 0 bl)=none:=by
  rcases (by omega:a < 0∨0≤a) with h0|h0
  ·exact q0g.2 fun hm=>by
    obtain⟨p,hp,he⟩:=z5b.1 hm;have:=qfu hp; omega
  ·have hl:=qfv (l:=bl) (i:=0) (k:=a.toNat);rw [z5p,show ((a.toNat:Nat):Int)=a by omega] at hl;rw [hl];have h1:=qfw hm a.toNat
   rcases hk with hk|hk|hk
   ·omega
   ·rw [hk] at h1
    cases e:bl[a.toNat]? with
    | none=>rfl
    | some x=>
     rw [e] at h1
     cases x with
     | none=>rfl
     | some y=>simp at h1
   ·rw [hk] at h1
    cases e:bl[a.toNat]? with
    | none=>rfl
    | some x=>rw [e] at h1; simp at h1
 exact ((h.mp_look (x:=a) z3e ko2 0 rfl).2 hn).2
end
end Go.Proofs.YtfmkddccnjidmaaGreatDoor
namespace Go.Nm
structure RightQ (c:Cl):Prop where
 n0:0≤c.n
 cer0:0≤c.cer
 pos0:0≤c.pos
 mm:c.mn≤c.mx
 v:∀i,i < 65→0≤c.h i
 sum:sumC c.h=c.n
 z:c.n=0→c.sum=0∧c.mn=0∧c.mx=0
 nz:c.n≠0→c.h (q0c c.mn).toNat≠0∧c.h (q0c c.mx).toNat≠0∧∀i,i < 65→c.h i=0∨(q0c c.mn≤i∧(i:Int)≤q0c c.mx)
theorem qrs {c:Cl}:q43 c=true↔RightQ c:=by
 unfold q43
 constructor
 ·intro h;simp only [z56,z5k,z5g,z58,z52] at h;obtain⟨⟨⟨⟨⟨⟨h1,h2⟩,h3⟩,h4⟩,h5⟩,h6⟩,h7⟩:=h;refine⟨by omega,by omega,by omega,by omega,q6n.1 h5,h6,fun hz=>?_,fun hz=>?_⟩
  ·rw [if_pos hz] at h7;simp only [z56,z52] at h7;exact⟨h7.1.1,h7.1.2,h7.2⟩
  ·rw [if_neg hz] at h7;simp only [z56,z5k,z5g,z58] at h7;refine⟨h7.1.1,h7.1.2,fun i hi=>?_⟩
   have:=h7.2;unfold inB at this;rw [z69] at this;have:=this i (z6q.2 hi);simpa only [z5h,z52] using this
 ·intro h;simp only [z56,z5k,z5g,z58,z52];refine⟨⟨⟨⟨⟨⟨by have:=h.n0; omega,by have:=h.cer0; omega⟩,by have:=h.pos0; omega⟩,by have:=h.mm; omega⟩,q6n.2 h.v⟩,h.sum⟩,?_⟩
  by_cases hz:c.n=0
  ·rw [if_pos hz];have:=h.z hz;simp only [z56,z52];exact⟨⟨this.1,this.2.1⟩,this.2.2⟩
  ·rw [if_neg hz];have:=h.nz hz;simp only [z56,z5k,z5g,z58];refine⟨⟨this.1,this.2.1⟩,?_⟩;unfold inB;rw [z69];intro i hi;simp only [z5h,z52];exact this.2.2 i (z6q.1 hi)
theorem qv0 {c:Cl}{b:Bool}(h:(q98 c b).2=0):q43 (q98 c b).1=true:=by
 unfold q98 at h ⊢
 split at h
 ·simp at h
 ·rename_i hr;rw [if_neg hr];have hq:=qrs.1 (by simpa using hr)
  split at h
  ·rename_i hb;rw [if_pos hb]
   split at h
   ·simp at h
   ·rename_i h2;rw [if_neg h2];exact qrs.2 ⟨hq.n0,by have:=hq.cer0; show 0≤c.cer+1; omega,hq.pos0,hq.mm,hq.v,hq.sum,hq.z,hq.nz⟩
  ·rename_i hb;rw [if_neg hb]
   split at h
   ·simp at h
   ·rename_i h2;rw [if_neg h2];exact qrs.2 ⟨hq.n0,hq.cer0,by have:=hq.pos0; show 0≤c.pos+1; omega,hq.mm,hq.v,hq.sum,hq.z,hq.nz⟩
theorem qv1 {a b:Nat}(h:a≤b):bitLen a≤bitLen b:=by
 unfold bitLen
 split
 ·omega
 ·rename_i ha;rw [if_neg (by omega)];have h1:=Nat.log2_self_le ha;have h2:=(Nat.le_log2 (show b≠0 by omega)).2 (z5f h1 h);omega
theorem qar {v w:Int}(h:v≤w):q0c v≤q0c w:=by
 have e:∀x:Int,q0c x=if x < 0 then 0 else if x=0 then 1 else 1+((bitLen x.toNat:Nat):Int):=fun _=>rfl
 have hm:=qv1 (a:=v.toNat) (b:=w.toNat) (by omega);rw [e v,e w]
 by_cases h1:v < 0
 ·rw [if_pos h1]
  by_cases h2:w < 0
  ·rw [if_pos h2]; exact z5z _
  ·rw [if_neg h2]
   by_cases h3:w=0
   ·rw [if_pos h3]; decide
   ·rw [if_neg h3]; omega
 ·rw [if_neg h1,if_neg (show ¬w < 0 by omega)]
  by_cases h3:w=0
  ·rw [if_pos (show v=0 by omega),if_pos h3]; exact z5z _
  ·rw [if_neg h3]
   by_cases h4:v=0
   ·rw [if_pos h4]; omega
   ·rw [if_neg h4]; omega
abbrev sumR (f:Nat→Int)(n:Nat):Int:=((List.range n).map f).sum
theorem qfx (f:Nat→Int)(n:Nat):sumR f (n+1)=sumR f n+f n:=by
 unfold sumR;rw [List.range_succ,z5v,List.sum_append]; simp
theorem qx3 (f:Nat→Int)(j:Nat):∀n,sumR (updN f j (f j+1)) n=sumR f n+if j < n then 1 else 0
 | 0=>by simp [sumR]
 | n+1=>by
  rw [qfx,qfx,qx3 f j n];unfold updN
  by_cases h:n=j
  ·subst h; simp; omega
  ·rw [if_neg h]
   by_cases h2:j < n
   ·rw [if_pos h2,if_pos (by omega)]; omega
   ·rw [if_neg h2,if_neg (by omega)]; omega
theorem qrt {f:Nat→Int}:∀{n:Nat},(∀i,i < n→0≤f i)→sumR f n≤0→∀i,i < n→f i=0
 | 0,_,_,i,hi=>by omega
 | n+1,h,hs,i,hi=>by
  rw [qfx] at hs;have h0:0≤sumR f n:=sumR_nn fun i hi=>h i (by omega)
  have hn:=h n (by omega)
  rcases (by omega:i < n∨i=n) with h1|rfl
  ·exact qrt (fun i hi=>h i (by omega)) (by omega) i h1
  ·omega
where sumR_nn {f:Nat→Int}:∀{n:Nat},(∀i,i < n→0≤f i)→0≤sumR f n
 | 0,_=>by simp [sumR]
 | n+1,h=>by
  rw [qfx];have:=sumR_nn (n:=n) fun i hi=>h i (by omega)
  have:=h n (by omega);omega
theorem z03 {c:Cl}{v:Int}(wc:WC c)(hv:wf64 v)(h:(addC c v).2=0):q43 (addC c v).1=true:=by
 unfold addC at h ⊢
 split at h
 ·simp at h
 rename_i hr;rw [if_neg hr];have hq:=qrs.1 (by simpa using hr)
 split at h
 ·simp at h
 rename_i h1;rw [if_neg h1]
 split at h
 ·simp at h
 rename_i h2;rw [if_neg h2]
 split at h
 ·simp at h
 rename_i h3;rw [if_neg h3];have e1:(addS c.n 1).1=c.n+1:=by
  unfold addS at h1 ⊢
  split at h1
  ·rename_i hw; rw [if_pos hw]
  ·simp at h1
 have bv:=q7a hv;have e3:(addH c.h v).1=updN c.h (q0c v).toNat (c.h (q0c v).toNat+1):=by
  unfold addH at h3 ⊢
  split at h3
  ·simp at h3
  ·rename_i h4;rw [if_neg h4]
   split at h3
   ·simp at h3
   ·rename_i h5; rw [if_neg h5]
 have hu:∀i,i≠(q0c v).toNat→updN c.h (q0c v).toNat (c.h (q0c v).toNat+1) i=c.h i:=fun i hi=>by unfold updN; rw [if_neg hi]
 have hs:updN c.h (q0c v).toNat (c.h (q0c v).toNat+1) (q0c v).toNat=c.h (q0c v).toNat+1:=by unfold updN; rw [if_pos rfl]
 have hvb:=hq.v (q0c v).toNat (by omega);have hn0:=hq.n0;refine qrs.2 ?_;dsimp only;rw [e1,e3];have hz:c.n=0→∀i,i < 65→c.h i=0:=fun h0=>qrt (n:=65) hq.v (by have:=hq.sum; unfold sumC rowH at this; show ((List.range 65).map c.h).sum≤0; omega)
 refine⟨?_,hq.cer0,hq.pos0,?_,fun i hi=>?_,?_,fun h0=>?_,fun _=>?_⟩
 ·show 0≤c.n+1; omega
 ·have:=hq.mm;dsimp only
  by_cases h0:c.n=0
  ·simp only [if_pos h0]; split <;> omega
  ·simp only [if_neg h0]; split <;> split <;> omega
 ·dsimp only
  by_cases e:i=(q0c v).toNat
  ·subst e; rw [hs]; omega
  ·rw [hu i e]; exact hq.v i hi
 ·have h5:=qx3 c.h (q0c v).toNat 65;rw [if_pos (by omega)] at h5;have h6:=hq.sum;show sumR _ 65=c.n+1;rw [h5];unfold sumC rowH at h6;show ((List.range 65).map c.h).sum+1=_;omega
 ·exfalso;have h0:c.n+1=0:=h0;omega
 ·dsimp only
  by_cases h0:c.n=0
  ·rw [if_pos h0,if_pos h0,if_neg (by omega),hs];refine⟨by omega,by omega,fun i hi=>?_⟩
   by_cases e:i=(q0c v).toNat
   ·right; omega
   ·left; rw [hu i e]; exact hz h0 i hi
  ·rw [if_neg h0,if_neg h0];have hnz:=hq.nz h0;have nzz:∀i,c.h i≠0→i < 65→updN c.h (q0c v).toNat (c.h (q0c v).toNat+1) i≠0:=fun i hi hl=>by
    by_cases e:i=(q0c v).toNat
    ·subst e; rw [hs]; omega
    ·rw [hu i e]; exact hi
   have bmn:=q7a wc.mn;have bmx:=q7a wc.mx;have m1:∀x,x≤c.mn→q0c x≤q0c c.mn:=fun x hx=>qar hx
   have m2:∀x,c.mx≤x→q0c c.mx≤q0c x:=fun x hx=>qar hx
   refine⟨?_,?_,fun i hi=>?_⟩
   ·split
    ·rw [hs]; omega
    ·exact nzz _ hnz.1 (by omega)
   ·split
    ·rw [hs]; omega
    ·exact nzz _ hnz.2.1 (by omega)
   ·by_cases e:i=(q0c v).toNat
    ·right;subst e
     constructor
     ·split
      ·omega
      ·have:=qar (v:=c.mn) (w:=v) (by omega); omega
     ·split
      ·omega
      ·have:=qar (v:=v) (w:=c.mx) (by omega); omega
    ·rw [hu i e]
     rcases hnz.2.2 i hi with h7|h7
     ·left; exact h7
     ·right
      constructor
      ·split
       ·have:=m1 v (by omega); omega
       ·exact h7.1
      ·split
       ·have:=m2 v (by omega); omega
       ·exact h7.2
theorem q45 {κ α:Type}[DecidableEq κ]{x:κ}{v:α}{m:List (κ × α)}{p:κ × α}(h:p∈mset x v m):p=(x,v)∨p∈m:=by
 unfold mset at h
 rcases z5l.1 h with h|h
 ·exact .inl h
 ·exact .inr (List.mem_filter.1 h).1
structure z04 (m:CM):Prop where
 nd:(q03 m).Nodup
 wc:∀p∈m,WC p.2
 rt:∀p∈m,q43 p.2=true
 wn:∀p∈m,wf64 p.1.win
theorem z04.mset {m:CM}(h:z04 m){k:Ky}{c:Cl}(h1:WC c)(h2:q43 c=true)(h3:wf64 k.win):z04 (mset k c m):=
 ⟨q7u h.nd,fun p hp=>by
  rcases q45 hp with rfl|hp
  ·exact h1
  ·exact h.wc p hp,fun p hp=>by
  rcases q45 hp with rfl|hp
  ·exact h2
  ·exact h.rt p hp,fun p hp=>by
  rcases q45 hp with rfl|hp
  ·exact h3
  ·exact h.wn p hp⟩
theorem qkt {m:CM}{ser:ByteArray}{b:Bool}:∀{ws:List Int} {p:Ky × Cl},p∈(q9j m ser b ws).1→∃w∈ws,p.1=⟨w,ser⟩∧p.2=(q98 (q20 m ⟨w,ser⟩) b).1∧(q98 (q20 m ⟨w,ser⟩) b).2=0
 | [],p,h=>by simp [q9j] at h
 | w::r,p,h=>by
  unfold q9j at h
  split at h
  ·simp at h
  ·rename_i h0
   rcases z5l.1 h with rfl|h
   ·exact⟨w,z5i ..,rfl,rfl,by simpa using h0⟩
   ·obtain⟨w',h1,h2⟩:=qkt h;exact⟨w',z5j _ h1,h2⟩
theorem qn5 {m:CM}{ser:ByteArray}{b:Bool}:∀{ws:List Int},(q9j m ser b ws).2=0→q03 (q9j m ser b ws).1=ws.map fun w=>(⟨w,ser⟩:Ky)
 | [],_=>rfl
 | w::r,h=>by
  unfold q9j at h ⊢
  split at h
  ·rename_i h0; exact absurd h h0
  ·rename_i h0;rw [if_neg h0];have ih:=qn5 (ws:=r) h;show _::q03 (q9j m ser b r).1=_;rw [ih]; rfl
theorem qn6:∀{l:CM} {m:CM},z04 m→(∀p∈l,WC p.2∧q43 p.2=true∧wf64 p.1.win)→z04 (qhw l m)
 | [],m,h,_=>h
 | p::r,m,h,hl=>by
  have h1:=hl p (z5i ..);exact qn6 (l:=r) (h.mset h1.1 h1.2.1 h1.2.2) fun q hq=>hl q (z5j _ hq)
theorem qls {κ α:Type}[DecidableEq κ]{x:κ}{v:α}{m:List (κ × α)}(hn:(q03 m).Nodup):(mset x v m).length=m.length+(if (q08 x m).isNone then 1 else 0):=by
 cases h:q08 x m with
 | none=>rw [qbh h]; rfl
 | some u=>rw [qbi hn h]; rfl
theorem qru:∀{l:CM} {m:CM},(q03 m).Nodup→(q03 l).Nodup→((qhw l m).length:Int)=m.length+((q03 l).filter fun k=>(q08 k m).isNone).length
 | [],m,_,_=>by simp [qhw]
 | p::r,m,hn,hl=>by
  have hl':p.1∉q03 r∧(q03 r).Nodup:=z7f.1 hl;show ((qhw r (mset p.1 p.2 m)).length:Int)=_;rw [qru (l:=r) (q7u hn) hl'.2,qls hn];have e:(q03 r).filter (fun k=>(q08 k (mset p.1 p.2 m)).isNone)=(q03 r).filter (fun k=>(q08 k m).isNone):=by
   apply List.filter_congr;intro k hk;rw [qck,if_neg (fun e:k=p.1=>hl'.1 (e▸hk))]
  rw [e];show _=_+(((p.1::q03 r).filter fun k=>(q08 k m).isNone).length:Int)
  rw [z6b]
  cases (q08 p.1 m).isNone <;> simp <;> omega
theorem wins_wf {first last:Int}(h1:wf64 first)(h2:wf64 last):∀w∈wins first last,wf64 w:=by
 intro w hw;unfold wins at hw;obtain⟨i,hi,rfl⟩:=z5b.1 hw;have:=z6q.1 hi;unfold wf64 at *;omega
theorem z05 (first last:Int)(ser:ByteArray):((wins first last).map fun w=>(⟨w,ser⟩:Ky)).Nodup:=by
 unfold wins;rw [z68];refine z7n.2 (List.nodup_range.imp fun {a b} hne e=>hne ?_)
 have:=congrArg Ky.win e;dsimp only [Function.comp] at this;omega
theorem ShOk.good {most:Int}{m:CM}(h:ShOk most m):z04 m:=⟨h.nd,h.wc,h.rt,h.wn⟩
theorem qip {most:Int}{m:CM}{first last:Int}{ser:ByteArray}(h:ShOk most m)(hf:wf64 first)(hl:wf64 last):ShOk most (qe4 most m first last ser).1:=by
 unfold qe4
 split
 ·exact h
 split
 ·exact h
 split
 ·exact h
 rename_i h1 h2 h3;have h3:(q9j m ser (decide (first=last)) (wins first last)).2=0:=by simpa using h3
 have hg:=qn6 (l:=(q9j m ser (decide (first=last)) (wins first last)).1) h.good fun p hp=>by
  obtain⟨w,hw,e1,e2,e3⟩:=qkt hp;rw [e2,e1];exact⟨qwd (h.cell _) _,qv0 e3,wins_wf hf hl w hw⟩
 have hk:=qn5 h3;have hlen:=qru (l:=(q9j m ser (decide (first=last)) (wins first last)).1) (m:=m) h.nd (by rw [hk]; exact z05 first last ser);rw [hk] at hlen;refine⟨h.m1,h.m2,hg.nd,hg.wc,hg.rt,hg.wn,?_⟩;dsimp only;rw [hlen];have hr:qu3 most m first last ser=true:=by simpa using h2
 unfold qu3 at hr;rw [if_neg h1] at hr
 split at hr
 ·cases hr
 ·have hr:=z4z hr;have e:((((wins first last).map fun w=>(⟨w,ser⟩:Ky)).filter fun k=>(q08 k m).isNone).length:Int)=q53 m ser (wins first last):=by
   unfold q53;rw [List.filter_map,z5q];rfl
  rw [e];exact hr
theorem z3g {most:Int}{m:CM}{k:Ky}{v:Int}(h:ShOk most m)(hv:wf64 v)(hk:wf64 k.win):ShOk most (qbw m k v).1:=by
 unfold qbw
 split
 ·exact h
 ·rename_i c hc
  split
  ·exact h
  ·rename_i h0;have h0:(addC c v).2=0:=by simpa using h0
   have wc:=h.wc _ (q0b hc);have hg:=h.good.mset (k:=k) (addC_wf wc hv) (z03 wc hv h0) hk;refine⟨h.m1,h.m2,hg.nd,hg.wc,hg.rt,hg.wn,?_⟩;dsimp only;rw [qbi h.nd hc];exact h.len
theorem setS_ok {most:Int}{m:CM}{k:Ky}{c:Cl}(h:ShOk most m)(wc:WC c)(hk:wf64 k.win):ShOk most (setS most m k c).1:=by
 unfold setS
 split
 ·exact h
 split
 ·exact h
 split
 ·exact h
 rename_i h1 h2 h3;have hg:=h.good.mset (k:=k) wc (by simpa using h2) hk;refine⟨h.m1,h.m2,hg.nd,hg.wc,hg.rt,hg.wn,?_⟩;dsimp only;have:q08 k m=none:=by
  cases e:q08 k m with
  | none=>rfl
  | some x=>rw [e] at h1; simp at h1
 rw [qbh this];omega
theorem qfy:∀{l:List Ot} {m:CM} {p:Ky × Cl},p∈qhx m l→p∈m
 | [],m,p,h=>h
 | o::r,m,p,h=>(List.mem_filter.1 (qfy (l:=r) h)).1
theorem qn7:∀{l:List Ot} {m:CM},(q03 m).Nodup→(q03 (qhx m l)).Nodup∧(qhx m l).length≤m.length
 | [],m,h=>⟨h,z5c _⟩
 | o::r,m,h=>by
  have h1:(q03 (mdel o.1 m)).Nodup:=h.sublist (List.filter_sublist.map _);have h2:=qn7 (l:=r) h1;have h3:(mdel o.1 m).length≤m.length:=List.length_filter_le _ _;exact⟨h2.1,z5f h2.2 h3⟩
theorem z3h {most:Int}{m:CM}{before:Int}(h:ShOk most m):ShOk most (qdl m before):=by
 have hk:=qn7 (l:=q8f m before) h.nd;exact⟨h.m1,h.m2,hk.1,fun p hp=>h.wc p (qfy hp),fun p hp=>h.rt p (qfy hp),fun p hp=>h.wn p (qfy hp),by have:=hk.2; have:=h.len; unfold qdl; omega⟩
def q21 (ck:Ck)(fl:Fl)(now stamp:Int):Gp × Int:=
 if (ckAt ck stamp).2≠0 then (Gp.z,(ckAt ck stamp).2)
 else if (qgp [(ckAt ck stamp).1,⟨fl.t,now⟩]).2≠0 then (Gp.z,13) else ((qgp [(ckAt ck stamp).1,⟨fl.t,now⟩]).1,0)
abbrev flOf (ms:MS)(a:Int):Fl:=(q08 a ms.m).getD Fl.z
structure JR where
 st:Str
 ms:MS
 cm:CM
 reason:Int
 win:Int
 gap:Gp
def q2g (c:Cfg)(now a:Int)(st:Str)(ms:MS)(cm:CM)(e:Pv):JR:=
 if e.stamp < st.last then ⟨st,ms,cm,6,0,Gp.z⟩ else
 if (q21 st.ck (flOf ms a) now e.stamp).2≠0∨st.ck.held=true then ⟨{ st with last:=e.stamp },ms,cm,2,0,Gp.z⟩ else
 if (q21 st.ck (flOf ms a) now e.stamp).1.lo < (ms.raise a (q21 st.ck (flOf ms a) now e.stamp).1.lo).1.value then
  ⟨{ st with last:=e.stamp },(ms.raise a (q21 st.ck (flOf ms a) now e.stamp).1.lo).1,cm,1,0,(q21 st.ck (flOf ms a) now e.stamp).1⟩ else
 if (qe4 c.cells cm (q1t c.gd (q21 st.ck (flOf ms a) now e.stamp).1).1 (q1t c.gd (q21 st.ck (flOf ms a) now e.stamp).1).2.1 (q8h e.name e.labs)).2≠0 then
  ⟨{ st with last:=e.stamp },(ms.raise a (q21 st.ck (flOf ms a) now e.stamp).1.lo).1,
   (qe4 c.cells cm (q1t c.gd (q21 st.ck (flOf ms a) now e.stamp).1).1 (q1t c.gd (q21 st.ck (flOf ms a) now e.stamp).1).2.1 (q8h e.name e.labs)).1,4,0,(q21 st.ck (flOf ms a) now e.stamp).1⟩ else
 if (qk6 c.gd (q21 st.ck (flOf ms a) now e.stamp).1).2≠0 then
  ⟨{ st with last:=e.stamp },(ms.raise a (q21 st.ck (flOf ms a) now e.stamp).1.lo).1,
   (qe4 c.cells cm (q1t c.gd (q21 st.ck (flOf ms a) now e.stamp).1).1 (q1t c.gd (q21 st.ck (flOf ms a) now e.stamp).1).2.1 (q8h e.name e.labs)).1,3,0,(q21 st.ck (flOf ms a) now e.stamp).1⟩ else
 ⟨{ st with last:=e.stamp },(ms.raise a (q21 st.ck (flOf ms a) now e.stamp).1.lo).1,
  (qbw (qe4 c.cells cm (q1t c.gd (q21 st.ck (flOf ms a) now e.stamp).1).1 (q1t c.gd (q21 st.ck (flOf ms a) now e.stamp).1).2.1 (q8h e.name e.labs)).1 ⟨(qk6 c.gd (q21 st.ck (flOf ms a) now e.stamp).1).1,q8h e.name e.labs⟩ e.value).1,
  if (qbw (qe4 c.cells cm (q1t c.gd (q21 st.ck (flOf ms a) now e.stamp).1).1 (q1t c.gd (q21 st.ck (flOf ms a) now e.stamp).1).2.1 (q8h e.name e.labs)).1 ⟨(qk6 c.gd (q21 st.ck (flOf ms a) now e.stamp).1).1,q8h e.name e.labs⟩ e.value).2≠0 then 4 else 0,
  if (qbw (qe4 c.cells cm (q1t c.gd (q21 st.ck (flOf ms a) now e.stamp).1).1 (q1t c.gd (q21 st.ck (flOf ms a) now e.stamp).1).2.1 (q8h e.name e.labs)).1 ⟨(qk6 c.gd (q21 st.ck (flOf ms a) now e.stamp).1).1,q8h e.name e.labs⟩ e.value).2≠0 then 0 else (qk6 c.gd (q21 st.ck (flOf ms a) now e.stamp).1).1,
  (q21 st.ck (flOf ms a) now e.stamp).1⟩
end Go.Nm
namespace Go.Proofs.YtfmkddccnjidmaaGreatDoor
open Go.Nm
section
variable {F L:List Assn} {H:Heap} {K KP:Value→Heap→Prop} {Q Q':Assn}
set_option maxHeartbeats 1000000 in
theorem qku {sb stb mb mm cb hb:Nat}{cs:List Value}{ms:MS}{ck:Ck}{now a stamp last:Int}(hl8:ck.smps.length≤8)(h9:lget cs 9=some (I64 now))(h16:lget cs 16=some (PA mb 0))
  (h:SatL H (cellsA sb cs 115::Ma.markC mb mm ms::Ma.mapF mm ms.m::cellsA stb [PA cb 0,PA hb 0,I64 last] 149::ckA cb ck::F))
  (k:∀H',SatL H' (cellsA sb cs 115::Ma.markC mb mm ms::Ma.mapF mm ms.m::cellsA stb [PA cb 0,PA hb 0,I64 last] 149::ckA cb ck::F)→
   K (.tuple #[aggG (q21 ck (flOf ms a) now stamp).1,I64 (q21 ck (flOf ms a) now stamp).2]) H') :
  CF 91 #[PA sb 0,I64 a,PA stb 0,I64 stamp] H K:=by
 refine q6k.call ?_;unfold q6k.code;refine h.al fun b _ h=>⟨_,h.rd 4 rfl _,?_⟩
 have h:=h.o [5,0,1,2,3,4] 6;refine z2e hl8 h fun H1 h=>⟨_,_,_,rfl,?_⟩
 unfold q21 at k;generalize ckAt ck stamp=C at *;refine h.al fun b1 _ h=>?_
 refine h.st 0 rfl rfl ?_;intro H2 h;refine⟨fun hc=>?_,fun hc=>?_⟩
 ·rw [if_pos (by simpa using hc)] at k;refine h.st 2 rfl rfl ?_;intro H3 h;refine⟨_,_,h.rds 2 rfl rfl,?_⟩;exact k _ (h.o [3,4,5,6,1] 7)
 rw [if_neg (by simpa using hc)] at k;refine⟨_,(h.rd 3 rfl _).trans h16,?_⟩;have h:=h.o [4,5,0,1,2,3,6] 7;refine Ma.Of_spec (a:=a) h fun H3 h=>⟨_,_,_,_,_,rfl,?_⟩
 refine h.al fun b2 _ h=>?_
 refine h.st 0 rfl rfl ?_;intro H4 h;intro Jn hJ;generalize hM:qgp [C.1,⟨(flOf ms a).t,now⟩]=M at *;have hJ':∀pb H',SatL H' (cellsA pb [I64 M.1.lo,I64 M.1.hi] 53::cellsA b [I64 0,I64 0] 53::cellsA sb cs 115::Ma.markC mb mm ms::Ma.mapF mm ms.m::cellsA stb [PA cb 0,PA hb 0,I64 last] 149::ckA cb ck::F)→Jn M.2 pb 0 H':=by
  intro pb H' h;refine hJ _ _ _ _ ?_;unfold q6k.r1;refine⟨fun hc=>?_,fun hc=>?_⟩
  ·rw [if_pos (by simpa using hc)] at k;refine h.st 1 rfl rfl ?_;intro H3 h;exact⟨_,_,h.rds 1 rfl rfl,k _ h.tl.tl⟩
  ·rw [if_neg (by simpa using hc)] at k;refine⟨_,_,h.rds 0 rfl rfl,?_⟩;refine h.st 1 rfl rfl ?_;intro H3 h;exact⟨_,_,h.rds 1 rfl rfl,k _ h.tl.tl⟩
 refine⟨_,_,h.rds 3 rfl rfl,_,h.rd 0 rfl _,_,(h.rd 6 rfl _).trans h9,?_,?_⟩
 ·refine h.al fun b3 _ h=>⟨?_,?_⟩
  ·refine qbt (gs:=[C.1,⟨(flOf ms a).t,now⟩]) h (fun H h=>h.ce_rd 0 rfl) (by simp) fun H5 h=>⟨_,_,_,rfl,?_⟩
   rw [hM];refine h.al fun b4 _ h=>?_
   refine h.st 0 rfl rfl ?_;intro H6 h;exact hJ' _ _ (h.o [0,7,8,3,4,9,6] 10)
  ·refine h.al fun b5 _ h=>?_
   refine qbt (gs:=[C.1,⟨(flOf ms a).t,now⟩]) h (fun H h=>h.ce_rd 1 rfl) (by simp) fun H5 h=>⟨_,_,_,rfl,?_⟩
   rw [hM];refine h.st 0 rfl rfl ?_;intro H6 h;exact hJ' _ _ (h.o [0,7,8,3,4,9,6] 10)
 ·refine h.al fun b6 _ h=>⟨(h.rd 7 rfl _).trans h9,h.rd 1 rfl _,h.rds 4 rfl rfl,?_⟩
  refine h.al fun b7 _ h=>?_
  refine qbt (gs:=[C.1,⟨(flOf ms a).t,now⟩]) h (fun H h=>h.ce_rd 0 rfl) (by simp) fun H5 h=>⟨_,_,_,rfl,?_⟩
  rw [hM];refine h.st 1 rfl rfl ?_;intro H6 h;exact hJ' _ _ (h.o [1,7,8,3,4,9,6] 10)
theorem qrv (g:Gd)(t:Int):wf64 (q2i g t):=by
 unfold q2i
 split
 ·split <;> exact i64in _
 ·unfold wf64; decide
theorem wf_meets (g:Gd)(x:Gp):wf64 (q1t g x).1∧wf64 (q1t g x).2.1:=by
 unfold q1t
 split
 ·split
  ·exact⟨qrv _ _,qrv _ _⟩
  ·unfold wf64; decide
 ·unfold wf64; decide
set_option maxHeartbeats 4000000 in
theorem z06 {c:Cfg}{sb stb mm cb:Nat}{p_mb p_hb p_hm hb2:Nat}{cs:List Value}{ms:MS}{cm:CM}{st:Str}{now a:Int}{e:Ev}(hl8:st.ck.smps.length≤8)(ok:ShOk c.cells cm)(hv:wf64 e.value)
  (h9:lget cs 9=some (I64 now)) (h12:(cs.drop 12).take 3=[I64 c.width,I64 c.policy,I64 c.most]) (h16:lget cs 16=some (PA p_mb 0)) (h17:lget cs 17=some (PA p_hb 0)) (ha:∀H,SatL H F→rdS H e.la (flat encL e.labs))
  (h:SatL H (cellsA sb cs 115::Ma.markC p_mb mm ms::Ma.mapF mm ms.m::shC p_hb p_hm c.cells::mapC p_hm cm::cellsA stb [PA cb 0,PA hb2 0,I64 st.last] 149::ckA cb st.ck::F))
  (k:∀H',SatL H' (cellsA sb cs 115::Ma.markC p_mb mm (q2g c now a st ms cm e.p).ms::Ma.mapF mm (q2g c now a st ms cm e.p).ms.m::shC p_hb p_hm c.cells::mapC p_hm (q2g c now a st ms cm e.p).cm::cellsA stb [PA cb 0,PA hb2 0,I64 (q2g c now a st ms cm e.p).st.last] 149::ckA cb st.ck::F)→
   K (.tuple #[.agg #[I64 (q2g c now a st ms cm e.p).reason,I64 (q2g c now a st ms cm e.p).win],aggG (q2g c now a st ms cm e.p).gap]) H') :
  CF 147 #[PA sb 0,I64 a,PA stb 0,aggV e] H K:=by
 refine qif.call ?_;unfold qif.code;unfold q2g at k;have eStamp:e.p.stamp=e.stamp:=rfl;have eVal:e.p.value=e.value:=rfl;have eName:e.p.name=e.name:=rfl;have eLabs:e.p.labs=e.labs:=rfl;rw [eStamp,eVal,eName,eLabs] at k;refine h.al fun b _ h=>?_
 refine h.al fun b1 _ h=>?_
 refine h.al fun b2 _ h=>?_
 refine⟨_,h.rd 2 rfl _,_,h.rd 8 rfl _,fun hc=>?_,fun hc=>?_⟩
 ·have hc:=z4z hc;simp only [if_pos hc] at k;refine h.st 1 rfl rfl ?_;intro H2 h;refine h.st 0 rfl rfl ?_;intro H3 h;exact⟨_,_,h.rds 1 rfl rfl,_,_,h.rds 0 rfl rfl,k _ h.tl.tl.tl⟩
 have hc:=z54 hc;simp only [if_neg hc] at k;refine⟨_,h.rd 2 rfl _,?_⟩;refine h.st 8 rfl rfl ?_;intro H2 h;refine⟨_,h.rd 2 rfl _,?_⟩;have h:=h.o [3,4,5,8,9,0,1,2,6,7] 10;refine qku (a:=a) (stamp:=e.stamp) hl8 h9 h16 h fun H3 h=>⟨_,_,_,rfl,?_⟩
 generalize q21 st.ck (flOf ms a) now e.stamp=T at *;refine h.al fun b3 _ h=>?_
 refine h.st 0 rfl rfl ?_;intro H4 h;refine⟨_,h.rd 4 rfl 0,_,qbu (h.o [5] 6),fun hc=>?_,fun hc=>?_⟩
 ·have hc:T.2≠0∨st.ck.held=true:=by
   simp only [z5h,z5k,z58] at hc
   rcases hc with hc|hc
   ·exact .inr hc
   ·exact .inl hc
  simp only [if_pos hc] at k;refine h.st 7 rfl rfl ?_;intro H5 h;refine h.st 6 rfl rfl ?_;intro H6 h;exact⟨_,_,h.rds 7 rfl rfl,_,_,h.rds 6 rfl rfl,k _ (h.o [1,2,3,9,10,4,5] 11)⟩
 have hc:¬(T.2≠0∨st.ck.held=true):=by
  simp only [z5g,z67,z52] at hc;rintro (h1|h1)
  ·exact h1 hc.2
  ·rw [hc.1] at h1; cases h1
 simp only [if_neg hc] at k;refine⟨_,(h.rd 1 rfl _).trans h16,_,h.rd 0 rfl _,?_⟩;have h:=h.o [2,3,0,1,4,5,6,7,8,9,10] 11;refine Ma.Raise_spec (a:=a) (t:=T.1.lo) h fun H5 h=>⟨_,rfl,?_⟩
 generalize (ms.raise a T.1.lo).1=M at *;refine⟨_,h.rd 2 rfl _,_,(h.rd 3 rfl _).trans h16,_,Ma.Value_spec h 0 rfl,fun hc=>?_,fun hc=>?_⟩
 ·have hc:=z4z hc;simp only [if_pos hc] at k;refine⟨_,_,h.rds 2 rfl rfl,?_⟩;refine h.st 7 rfl rfl ?_;intro H6 h;refine⟨h.rds 2 rfl rfl,?_⟩;refine h.st 6 rfl rfl ?_;intro H7 h;exact⟨_,_,h.rds 7 rfl rfl,_,_,h.rds 6 rfl rfl,k _ (h.o [3,0,1,9,10,4,5] 11)⟩
 have hc:=z54 hc;simp only [if_neg hc] at k;refine⟨_,_,_,_,h.rds 8 rfl rfl,?_⟩;refine qzb h (fun H h=>ha H (h.o [] 11)) fun H6 h=>⟨_,rfl,?_⟩
 generalize q8h e.name e.labs=ser at *;refine⟨_,_,_,h.rds 3 rfl h12,_,_,h.rds 2 rfl rfl,?_⟩;refine qmk (g:=c.gd) (x:=T.1) h fun H7 h=>⟨_,_,_,rfl,?_⟩
 have hwm:=wf_meets c.gd T.1;generalize q1t c.gd T.1=W at *;refine⟨_,(h.rd 3 rfl _).trans h17,?_⟩;have h:=h.o [9,10,0,1,2,3,4,5,6,7,8] 11;refine z2l ok hwm.1 hwm.2 h fun H8 h=>⟨_,rfl,?_⟩
 have ok2:ShOk c.cells (qe4 c.cells cm W.1 W.2.1 ser).1:=qip ok hwm.1 hwm.2;generalize qe4 c.cells cm W.1 W.2.1 ser=N at *;refine⟨fun hc=>?_,fun hc=>?_⟩
 ·have hc:N.2≠0:=by simpa using hc
  simp only [if_pos hc] at k;refine⟨_,_,h.rds 4 rfl rfl,?_⟩;refine h.st 9 rfl rfl ?_;intro H9 h;refine⟨h.rds 4 rfl rfl,?_⟩;refine h.st 8 rfl rfl ?_;intro H10 h;exact⟨_,_,h.rds 9 rfl rfl,_,_,h.rds 8 rfl rfl,k _ (h.o [5,2,3,0,1,6,7] 11)⟩
 have hc:¬N.2≠0:=by simpa using hc
 simp only [if_neg hc] at k;refine⟨_,_,_,h.rds 5 rfl h12,_,_,h.rds 4 rfl rfl,?_⟩;refine z2c (g:=c.gd) (x:=T.1) h fun H9 h=>⟨_,_,rfl,?_⟩
 generalize qk6 c.gd T.1=P at *;refine⟨fun hc=>?_,fun hc=>?_⟩
 ·have hc:P.2≠0:=by simpa using hc
  simp only [if_pos hc] at k;refine⟨_,_,h.rds 4 rfl rfl,?_⟩;refine h.st 9 rfl rfl ?_;intro H10 h;refine⟨h.rds 4 rfl rfl,?_⟩;refine h.st 8 rfl rfl ?_;intro H11 h;exact⟨_,_,h.rds 9 rfl rfl,_,_,h.rds 8 rfl rfl,k _ (h.o [5,2,3,0,1,6,7] 11)⟩
 have hc:¬P.2≠0:=by simpa using hc
 simp only [if_neg hc] at k;refine⟨_,(h.rd 5 rfl _).trans h17,_,h.rd 10 rfl _,?_⟩;refine qr8 ok2 (key:=⟨P.1,ser⟩) hv h fun H10 h=>⟨_,rfl,?_⟩
 generalize qbw N.1 ⟨P.1,ser⟩ e.value=C at *;refine⟨fun hc=>?_,fun hc=>?_⟩
 ·have hc:C.2≠0:=by simpa using hc
  simp only [if_pos hc] at k;refine⟨_,_,h.rds 4 rfl rfl,?_⟩;refine h.st 9 rfl rfl ?_;intro H11 h;refine⟨h.rds 4 rfl rfl,?_⟩;refine h.st 8 rfl rfl ?_;intro H12 h;exact⟨_,_,h.rds 9 rfl rfl,_,_,h.rds 8 rfl rfl,k _ (h.o [5,2,3,0,1,6,7] 11)⟩
 ·have hc:¬C.2≠0:=by simpa using hc
  simp only [if_neg hc] at k;refine⟨_,_,h.rds 4 rfl rfl,?_⟩;refine h.st 9 rfl rfl ?_;intro H11 h;refine⟨h.rds 4 rfl rfl,?_⟩;refine h.st 8 rfl rfl ?_;intro H12 h;exact⟨_,_,h.rds 9 rfl rfl,_,_,h.rds 8 rfl rfl,k _ (h.o [5,2,3,0,1,6,7] 11)⟩
end
end Go.Proofs.YtfmkddccnjidmaaGreatDoor
namespace Go.Nm
structure Eff where
 kind:Int:=0
 agent:Int:=0
 epoch:Int:=0
 boot:Int:=0
 next:Int:=0
 number:Int:=0
 ida:Int:=0
 ide:Int:=0
 seq:Int:=0
 reason:Int:=0
 win:Int:=0
 gap:Gp:=Gp.z
 out:Ot:=(⟨0,⟨#[]⟩⟩,Cl.z)
abbrev q54 (e:Eff):List Value:=[I64 e.kind,I64 e.agent,I64 e.epoch,I64 e.boot,I64 e.next,I64 e.number,I64 e.ida,I64 e.ide,I64 e.seq,I64 e.reason,I64 e.win,I64 e.gap.lo,I64 e.gap.hi,
 I64 e.out.1.win,.string e.out.1.ser,I64 e.out.2.n,I64 (whi e.out.2.sum),.int .u64 (wlo e.out.2.sum),I64 e.out.2.mn,I64 e.out.2.mx,I64 e.out.2.cer,I64 e.out.2.pos]++vecL .i64 e.out.2.h 65 0
theorem q15 (e:Eff):(q54 e).length=87:=rfl
theorem q8r (e:Eff):q07 (q54 e)=true:=rfl
structure SAd where
 rb:Nat
 rm:Nat
 mb:Nat
 mm:Nat
 hb:Nat
 hm:Nat
 tm:Nat
 ka:Option Addr
 kc:Nat
abbrev q46 (s:Sta)(p:SAd):List Value:=[I64 s.cfg.width,I64 s.cfg.policy,I64 s.cfg.most,I64 s.cfg.lag,I64 s.cfg.rho,I64 s.cfg.trust,I64 s.cfg.agents,I64 s.cfg.cells,I64 s.cfg.hold,I64 s.now,I64 s.boots,I64 s.sunk,
 I64 s.cfg.width,I64 s.cfg.policy,I64 s.cfg.most,PA p.rb 0,PA p.mb 0,PA p.hb 0,.map (some p.tm),.slice p.ka s.kept.length p.kc]
structure qde (c:Cfg):Prop where
 gd:c.gd.ok
 lag:1≤c.lag∧c.lag≤1099511627776
 rate:q3o c.rho∧0≤c.trust∧c.trust≤100
 ag:1≤c.agents∧c.agents≤64
 cl:1≤c.cells∧c.cells≤1024
 hd:1≤c.hold∧c.hold≤256
structure qkv (c:Cfg)(s:Str):Prop where
 ck:CkOk s.ck
 rho:s.ck.rho=c.rho
 least:s.ck.least=c.trust
 hs:s.hs.Ok
 most:s.hs.most=c.hold
 next:s.hs.next≤1099511627776
 rows:∀p∈s.hs.rows,p.1 < 1099511627776∧q9a p.2=true∧wf64 p.2.value
 last:-1≤s.last∧s.last≤4611686018427387903
structure q2z (s:Sta):Prop where
 cfg:qde s.cfg
 now:isT s.now
 boots:0≤s.boots∧s.boots≤1099511627776
 sunk:0≤s.sunk
 rows:q3u s.rows
 ms:MOk s.ms
 lag:s.ms.lag=s.cfg.lag
 sh:ShOk s.cfg.cells s.cm
 len:s.sts.length=64
 sts:∀st,some st∈s.sts→qkv s.cfg st
 reg:∀k:Nat,(∃st:Str,s.sts[k]?=some (some st))↔∃e:En,s.rows[k]?=some e∧0 < e.epoch
 kept:∀o∈s.kept,WC o.2
end Go.Nm
namespace Go.Proofs.YtfmkddccnjidmaaGreatDoor
open Go.Nm
theorem sl39:SlT Tryz.prog 39 66 87 704:=qbf (by kernel_rfl)
abbrev stL (Q:Assn)(sb:Nat)(s:Sta)(p:SAd):List Assn:=[cellsA sb (q46 s p) 115,Ro.rollC p.rb p.rm s.cfg.agents,Ro.mapE p.rm s.rows,Ma.markC p.mb p.mm s.ms,Ma.mapF p.mm s.ms.m,shC p.hb p.hm s.cfg.cells,mapC p.hm s.cm,strmA Q p.tm s.sts,slA 64 74 p.ka s.kept.length p.kc (flat encO s.kept)]
def stA (Q:Assn)(sb:Nat)(s:Sta):Assn:=exS fun p:SAd=>star (stL Q sb s p)
section
variable {F L:List Assn} {H:Heap} {K KP:Value→Heap→Prop} {Q Q':Assn}
theorem q0f {sb:Nat}{s:Sta}:SatL H (stA Q sb s::F)↔∃p:SAd,SatL H (cellsA sb (q46 s p) 115::Ro.rollC p.rb p.rm s.cfg.agents::Ro.mapE p.rm s.rows::Ma.markC p.mb p.mm s.ms::Ma.mapF p.mm s.ms.m::shC p.hb p.hm s.cfg.cells::mapC p.hm s.cm::strmA Q p.tm s.sts::slA 64 74 p.ka s.kept.length p.kc (flat encO s.kept)::F):=by
 constructor
 ·intro h;obtain⟨p,h⟩:=q0r.1 h;exact⟨p,SatL.open h⟩
 ·rintro⟨p,h⟩;exact q0r.2 ⟨p,SatL.shut (stL Q sb s p) h⟩
theorem qrw {tm:Nat}{sts:List (Option Str)}(hs:Sub Q Q')(h:SatL H (strmA Q tm sts::F)):SatL H (strmA Q' tm sts::F):=by
 obtain⟨bl,hp,h⟩:=q74.1 h;have h:=h.o [1,0] 2;have h:=qc2 hs h;exact q74.2 ⟨bl,hp,h.o [1,0] 2⟩
theorem z3i {sb:Nat}{s:Sta}(hs:Sub Q Q')(h:SatL H (stA Q sb s::F)):SatL H (stA Q' sb s::F):=by
 obtain⟨p,h⟩:=q0f.1 h;have h:=h.o [7,0,1,2,3,4,5,6,8] 9;have h:=qrw hs h;exact q0f.2 ⟨p,h.o [1,2,3,4,5,6,7,0,8] 9⟩
theorem qv2 {a:Option Addr}{c:Nat}{evs:List Ev}(h:SatL H (Q::F))(ha:∀H,SatL H (Q::F)→rdS H a (flat encV evs))(hk:∀e∈evs,q8m Q e)(hl:evs.length≤1000000)(hll:∀e∈evs,e.labs.length≤1000000)
  (k:∀Q' a' c' evs' H',Sub Q Q'→evs'.map Ev.p=evs.map Ev.p→(∀e∈evs',q8m Q' e)→SatL H' (Q'::slA 95 4 a' evs'.length c' (flat encV evs')::F)→K (.slice a' evs'.length c') H') :
  CF 146 #[.slice a evs.length c] H K:=by
 refine q52.call ?_;unfold q52.code;refine qzq h ha hl fun a1 c1 H1 h=>⟨_,_,_,rfl,?_⟩
 refine⟨fun i H'=>∃(j:Nat) (Q':Assn) (evs':List Ev),i=j∧j≤evs.length∧Sub Q Q'∧evs'.map Ev.p=evs.map Ev.p∧(∀q (hq:q < evs'.length),q < j→q8m Q' evs'[q])∧(∀q (hq:q < evs'.length) (hq2:q < evs.length),j≤q→evs'[q]=evs[q])∧
  SatL H' (Q'::slA 95 4 a1 evs.length c1 (flat encV evs')::F),fun i _=>evs.length - i.toNat,
  ⟨0,Q,evs,rfl,by omega,Sub.refl Q,rfl,fun q _ h=>by omega,fun _ _ _ _=>rfl,h.o [1,0] 2⟩,?_⟩
 rintro i H2 ⟨j,Q',evs',rfl,hj,hsub,hmap,hlab,hrest,h⟩;have hlen:evs'.length=evs.length:=by have:=congrArg List.length hmap; simpa using this
 unfold q52.l1;refine⟨fun hc=>?_,fun hc=>?_⟩
 ·have hlt:j < evs.length:=by have:=z4z hc; omega
  have hlt':j < evs'.length:=by omega
  have hr:=h.sl_rd 1 rfl;have hej:=hrest j hlt' hlt (z5c _);refine⟨by omega,_,_,hr.some q14 (by omega) hlt',_,_,_,(by
   have:=hr.el q14 hlt' 3 (v:=.slice evs'[j].la evs'[j].labs.length evs'[j].lc) rfl;rw [show adrO a1+((j:Nat):Int).toNat*4+2+1=adrO a1+j*4+3 by simp];exact this),?_⟩
  rw [hej];refine quk h (fun H h=>((hk _ (z5e hlt)).sub hsub).at h 0 rfl) (hll _ (z5e hlt)) fun Q2 a2 c2 H3 hs2 hk2 h=>⟨_,_,_,rfl,by omega,?_⟩
  obtain⟨h1,h2,h3⟩:=h.sl_set 1 rfl (j*4+3) [.slice a2 evs[j].labs.length c2] (by rw [q0m q14]; simp; omega) (by simp);refine⟨_,_,h1,by rw [show adrO a1+((j:Nat):Int).toNat*4+2+1=adrO a1+(j*4+3) by simp [z6e]]; exact h2,?_⟩;intro H4 hH;rw [w64 (x:=(j:Int)+1) (by omega) (by omega)];have e:=qqp q14 (⟨evs[j].stamp,evs[j].value,evs[j].name,evs[j].labs,a2,c2⟩:Ev) [.slice a2 evs[j].labs.length c2] 3 (xs:=evs') (k:=j) hlt' (by simp) (by rw [hej]; rfl);rw [e] at h3;refine⟨⟨j+1,Q2,evs'.set j ⟨evs[j].stamp,evs[j].value,evs[j].name,evs[j].labs,a2,c2⟩,by omega,hlt,hsub.trans hs2,?_,fun q hq hq'=>?_,fun q hq hq2 hjq=>?_,?_⟩,by dsimp only; omega⟩
  ·rw [List.map_set,hmap];apply z6n
   ·simp
   ·intro q h5 h6;rw [List.getElem_set]
    split
    ·rename_i e5; subst e5; simp [Ev.p]
    ·rfl
  ·rw [List.getElem_set]
   split
   ·exact hk2
   ·exact (hlab q (by simpa using hq) (by omega)).sub hs2
  ·rw [List.getElem_set,if_neg (by omega)];exact hrest q (by simpa using hq) hq2 (by omega)
  ·rw [hH,show adrO a1+((j:Nat):Int).toNat*4+2+1=adrO a1+(j*4+3) by simp [z6e]];exact h3
 ·have hge:evs.length≤j:=by have:=z54 hc; omega
  rw [← hlen] at h ⊢;exact k Q' a1 c1 evs' _ hsub hmap (fun e he=>by
   obtain⟨q,hq,rfl⟩:=z7d he;exact hlab q hq (by omega)) h
end
end Go.Proofs.YtfmkddccnjidmaaGreatDoor
namespace Go.Nm
def Pv.z:Pv:=⟨0,0,⟨#[]⟩,[]⟩
structure JS where
 st:Str
 ms:MS
 cm:CM
def z3j (c:Cfg)(now a ep seq:Int)(x:JS)(e:Pv):JS × Eff:=
 (⟨(q2g c now a x.st x.ms x.cm e).st,(q2g c now a x.st x.ms x.cm e).ms,(q2g c now a x.st x.ms x.cm e).cm⟩,
  { kind:=3,ida:=a,ide:=ep,seq:=seq,reason:=(q2g c now a x.st x.ms x.cm e).reason,win:=(q2g c now a x.st x.ms x.cm e).win,gap:=(q2g c now a x.st x.ms x.cm e).gap })
def q2s (c:Cfg)(now a ep first:Int)(evs:List Pv)(x:JS):Nat→JS × List Eff
 | 0=>(x,[])
 | n+1=>((z3j c now a ep (first+n) (q2s c now a ep first evs x n).1 (evs.getD n Pv.z)).1,(q2s c now a ep first evs x n).2++[(z3j c now a ep (first+n) (q2s c now a ep first evs x n).1 (evs.getD n Pv.z)).2])
def qkw (s:Sta)(r:Rp)(st:Str):JS × List Eff:=q2s s.cfg r.nw r.ag r.ep st.hs.next (st.hs.offer r.nx r.evs).2.1 ⟨{ st with hs:=(st.hs.offer r.nx r.evs).1 },s.ms,s.cm⟩ (st.hs.offer r.nx r.evs).2.1.length
def qaz (s:Sta)(r:Rp):Sta × List Eff:=match s.sts[r.ag.toNat]? with
 | some (some st)=>({ s with now:=r.nw,ms:=(qkw s r st).1.ms,cm:=(qkw s r st).1.cm,sts:=s.sts.set r.ag.toNat (some (qkw s r st).1.st) },
   (qkw s r st).2++[{ kind:=2,agent:=r.ag,epoch:=r.ep,next:=(st.hs.offer r.nx r.evs).1.next }])
 | _=>(s,[])
theorem qrx (c:Cfg)(now a:Int)(st:Str)(ms:MS)(cm:CM)(e:Pv):(q2g c now a st ms cm e).st.ck=st.ck∧(q2g c now a st ms cm e).st.hs=st.hs∧
  ((q2g c now a st ms cm e).st.last=st.last∨(q2g c now a st ms cm e).st.last=e.stamp):=by
 unfold q2g
 split
 ·exact⟨rfl,rfl,.inl rfl⟩
 split
 ·exact⟨rfl,rfl,.inr rfl⟩
 split
 ·exact⟨rfl,rfl,.inr rfl⟩
 split
 ·exact⟨rfl,rfl,.inr rfl⟩
 split <;> exact⟨rfl,rfl,.inr rfl⟩
theorem z3k (g:Gd)(t:Int):wf64 (q2i g t):=by
 unfold q2i
 split
 ·split <;> exact i64in _
 ·unfold wf64; decide
theorem z3l (g:Gd)(x:Gp):wf64 (q1t g x).1∧wf64 (q1t g x).2.1:=by
 unfold q1t
 split
 ·split
  ·exact⟨z3k _ _,z3k _ _⟩
  ·unfold wf64; decide
 ·unfold wf64; decide
theorem wf_pick (g:Gd)(x:Gp):wf64 (qk6 g x).1:=by
 have h:=z3l g x;have z:wf64 0:=by unfold wf64; decide
 unfold qk6
 split
 ·exact z
 split
 ·exact z
 split
 ·exact h.1
 split
 ·exact h.2
 split
 ·exact z3k _ _
 split
 ·exact z
 ·exact h.1
theorem z3m {c:Cfg}{now a:Int}{st:Str}{ms:MS}{cm:CM}{e:Pv}(h:ShOk c.cells cm)(hv:wf64 e.value):ShOk c.cells (q2g c now a st ms cm e).cm:=by
 have h1:=z3l c.gd (q21 st.ck (flOf ms a) now e.stamp).1;have h2:=wf_pick c.gd (q21 st.ck (flOf ms a) now e.stamp).1;unfold q2g
 split
 ·exact h
 split
 ·exact h
 split
 ·exact h
 split
 ·exact qip h h1.1 h1.2
 split
 ·exact qip h h1.1 h1.2
 ·exact z3g (qip h h1.1 h1.2) hv h2
theorem qkx {c:Cfg}{now a ep first:Int}{evs:List Pv}{x:JS}(h:ShOk c.cells x.cm)(hv:∀e∈evs,wf64 e.value):∀n,n≤evs.length→
  ShOk c.cells (q2s c now a ep first evs x n).1.cm∧(q2s c now a ep first evs x n).1.st.ck=x.st.ck∧(q2s c now a ep first evs x n).1.st.hs=x.st.hs∧(q2s c now a ep first evs x n).2.length=n
 | 0,_=>⟨h,rfl,rfl,rfl⟩
 | n+1,hn=>by
  have ih:=qkx (now:=now) (a:=a) (ep:=ep) (first:=first) h hv n (by omega);have hj:=qrx c now a (q2s c now a ep first evs x n).1.st (q2s c now a ep first evs x n).1.ms (q2s c now a ep first evs x n).1.cm (evs.getD n Pv.z);refine⟨z3m ih.1 ?_,hj.1.trans ih.2.1,hj.2.1.trans ih.2.2.1,?_⟩
  ·rw [qal _ (by omega)]; exact hv _ (z5e _)
  ·show (_++[_]).length=_;rw [z51,ih.2.2.2]; rfl
structure z3n (Q:Assn)(F:List Assn)(r:Rp)(a:Option Addr)(evs:List Ev):Prop where
 eq:r.evs=evs.map Ev.p
 rd:∀H,SatL H F→rdS H a (flat encV evs)
 labs:∀e∈evs,q8m Q e
 len:evs.length≤1000000
 vals:∀e∈r.evs,wf64 e.value
end Go.Nm
namespace Go.Proofs.YtfmkddccnjidmaaGreatDoor
open Go.Nm
section
variable {F L:List Assn} {H:Heap} {K KP:Value→Heap→Prop} {Q Q':Assn}
theorem evOk_len {e:Pv}(h:q9a e=true):e.labs.length≤8:=by
 unfold q9a at h;rw [z56] at h;exact (q92 h.2).len
set_option maxHeartbeats 4000000 in
theorem qv3 {sb:Nat}{s:Sta}{r:Rp}{a:Option Addr}{c:Nat}{evs:List Ev}{st:Str}(ok:q2z s)(hag:0≤r.ag)(hst:s.sts[r.ag.toNat]?=some (some st))(hr:z3n Q F r a evs)(hlr:∀e∈r.evs,q9a e=true)
  (hlen:evs.length≤64) (h:SatL H (Q::stA Q sb s::F))
  (k:∀Q' a' c' H',Sub Q Q'→SatL H' (Q'::slA 66 87 a' (qaz s r).2.length c' (flat q54 (qaz s r).2)::stA Q' sb (qaz s r).1::F)→K (.slice a' (qaz s r).2.length c') H') :
  CF 71 #[PA sb 0,.agg ⟨encR r a c⟩] H K:=by
 have hag':((r.ag.toNat:Nat):Int)=r.ag:=by omega
 have hsok:=ok.sts st (z5w hst);have hel:r.evs.length=evs.length:=by rw [hr.eq,z5q]
 unfold qaz at k;rw [hst] at k;dsimp only at k;refine qah.call ?_;unfold qah.code;refine h.al fun b _ h=>⟨_,h.rd 0 rfl _,?_⟩
 have h:=h.o [2,1,0] 3;obtain⟨p,h⟩:=q0f.1 h;refine h.st 0 rfl rfl ?_;intro H1 h;have h:=h.o [7,0,1,2,3,4,5,6,8,9,10] 11;obtain⟨stb,bl,hole,h⟩:=q96 h hst;have h:=h.o [1,0,2,3,4,5,6,7,8,9,10,11,12] 13;obtain⟨cb,hb,h⟩:=q1n.1 h;have hptr:=qc3 hole h 3 rfl;rw [hag'] at hptr;refine⟨_,h.rd 5 rfl _,_,h.rd 14 rfl _,_,hptr,q02 ⟨_,h.rd 0 rfl _,_,q9q (h.o [2] 3),q02 ⟨_,h.rd 0 rfl _,_,h.rd 14 rfl _,_,_,_,h.rd 14 rfl _,?_⟩⟩⟩;have h:=h.o [13,0,1,2,3,4,5,6,7,8,9,10,11,12,14] 15;rw [hel];refine qv2 h (fun H h=>hr.rd H (h.o [] 15)) hr.labs (by omega) (fun e he=>?_) fun Q1 a1 c1 evs1 H2 hs1 hm1 hl1 h=>⟨_,_,_,rfl,h.rd 15 rfl _,h.rd 2 rfl _,?_⟩
 ·have:=evOk_len (hlr e.p (by rw [hr.eq]; exact z5b.2 ⟨e,he,rfl⟩));show e.p.labs.length≤1000000;omega
 have hl1':evs1.length=evs.length:=by have:=congrArg List.length hm1; simpa using this
 have h:=h.o [4,0,1,2,3,5,6,7,8,9,10,11,12,13,14,15] 16;have h:=qp4 hs1 h;have hm1':evs1.map Ev.p=r.evs:=by rw [hm1,hr.eq]
 refine qkk (items:=evs1) h hsok.hs (by have:=hsok.next; omega) (fun H h=>h.sl_rd 1 rfl) hl1 (by omega) fun a2 c2 ready H3 hready hlab h=>⟨_,_,_,_,rfl,?_⟩
 rw [hm1'] at hready h;have hrl:(st.hs.offer r.nx r.evs).2.1.length=ready.length:=by rw [← hready,z5q]
 unfold qkw at k;rw [hrl] at k;generalize hO:st.hs.offer r.nx r.evs=O at *;have hv:∀e∈O.2.1,wf64 e.value:=by
  intro e he;rw [← hO] at he
  rcases (qbz (s:=st.hs) (first:=r.nx) (items:=r.evs)).1 e he with h|⟨q,h,rfl⟩
  ·exact hr.vals e h
  ·exact (hsok.rows q h).2.2
 have hO2:ready.length≤1000000:=by
  have h1:=qp3 (s:=st.hs) (first:=r.nx) (items:=r.evs);rw [hO,hrl] at h1;have h2:=hsok.hs.rows.length;have h3:=hsok.hs.most2;omega
 have hjok:=fun n hn=>qkx (c:=s.cfg) (now:=r.nw) (a:=r.ag) (ep:=r.ep) (first:=st.hs.next) (evs:=O.2.1) (x:=⟨{ st with hs:=O.1 },s.ms,s.cm⟩) ok.sh hv n hn
 generalize hG:q2s s.cfg r.nw r.ag r.ep st.hs.next O.2.1 ⟨{ st with hs:=O.1 },s.ms,s.cm⟩=G at *;refine⟨fun la ln lc i H'=>∃j:Nat,i=j∧j≤ready.length∧ln=j∧
  SatL H' (cellsA sb (q46 { s with now:=r.nw } p) 115::Ma.markC p.mb p.mm (G j).1.ms::Ma.mapF p.mm (G j).1.ms.m::shC p.hb p.hm s.cfg.cells::mapC p.hm (G j).1.cm::cellsA stb [PA cb 0,PA hb 0,I64 (G j).1.st.last] 149::ckA cb st.ck::
   slA 66 87 la j lc (flat q54 (G j).2)::slA 95 4 a2 ready.length c2 (flat encV ready)::hldA Q1 hb O.1::Q1::mapA I64 ptV p.tm (tabP 0 bl)::qhy Q bl s.sts r.ag.toNat::Ro.rollC p.rb p.rm s.cfg.agents::Ro.mapE p.rm s.rows::slA 64 74 p.ka s.kept.length p.kc (flat encO s.kept)::cellsA b (encR r a c) 46::F),
  fun _ _ _ i _=>ready.length - i.toNat,⟨0,rfl,by omega,rfl,?_⟩,?_⟩
 ·have h0:G 0=(⟨{ st with hs:=O.1 },s.ms,s.cm⟩,[]):=by rw [← hG]; rfl
  rw [h0];exact (h.sl_nil 66 87).o [9,12,13,14,15,5,6,0,1,2,3,7,8,10,11,16,17] 18
 rintro la ln lc i H4 ⟨j,rfl,hj,rfl,h⟩;unfold qah.l1;obtain⟨jok,jck,jhs,jlen⟩:=hjok ln (by omega);refine⟨fun hc=>?_,fun hc=>?_⟩
 ·have hlt:ln < ready.length:=by have:=z4z hc; omega
  have hrd:=h.sl_rd 8 rfl;refine⟨by omega,_,_,hrd.some q14 (by omega) hlt,_,_,_,_,_,_,hrd.els q14 hlt,?_⟩;refine h.al fun b2 _ h=>?_
  refine h.st 0 rfl rfl ?_;intro H5 h;refine⟨_,h.rd 17 rfl _,_,_,_,_,_,_,h.rds 0 rfl rfl,?_⟩;have h:=h.o [1,2,3,4,5,6,7,0,8,9,10,11,12,13,14,15,16,17] 18;have hpj:O.2.1.getD ln Pv.z=ready[ln].p:=by
   rw [qal _ (by omega)];simp only [← hready,z6o]
  have hvj:wf64 ready[ln].value:=by
   have:=hv ready[ln].p (by rw [← hready]; exact z5b.2 ⟨_,z5e hlt,rfl⟩);exact this
  have hck8:(G ln).1.st.ck.smps.length≤8:=by rw [jck]; exact hsok.ck.len
  rw [← show (G ln).1.st.ck=st.ck from jck] at h;refine z06 (c:=s.cfg) (now:=r.nw) (a:=r.ag) (st:=(G ln).1.st) (e:=ready[ln]) (mm:=p.mm) (p_mb:=p.mb) (p_hb:=p.hb) (p_hm:=p.hm) hck8 jok hvj rfl rfl rfl rfl (fun H h=>(hlab _ (z5e hlt)).at h 4 rfl) h fun H6 h=>⟨_,_,_,_,rfl,?_⟩
  rw [show (G ln).1.st.ck=st.ck from jck] at h;have hjs:G (ln+1)=((z3j s.cfg r.nw r.ag r.ep (st.hs.next+ln) (G ln).1 ready[ln].p).1,(G ln).2++[(z3j s.cfg r.nw r.ag r.ep (st.hs.next+ln) (G ln).1 ready[ln].p).2]):=by
   rw [← hpj,← hG]; rfl
  unfold z3j at hjs;generalize q2g s.cfg r.nw r.ag (G ln).1.st (G ln).1.ms (G ln).1.cm ready[ln].p=J at *;refine h.al fun b3 _ h=>?_
  refine h.al fun b4 _ h=>?_
  refine h.st 1 rfl rfl ?_;intro H7 h;refine h.st 0 rfl rfl ?_;intro H8 h;refine⟨_,h.rd 19 rfl _,_,h.rd 19 rfl _,?_⟩;refine h.al fun b5 _ h=>?_
  refine h.st 0 rfl rfl ?_;intro H9 h;refine⟨_,_,_,h.rds 0 rfl rfl,_,_,h.rds 2 rfl rfl,_,_,h.rds 1 rfl rfl,?_⟩;refine h.al fun b6 _ h=>?_
  have hnx:=hsok.next;have hnx0:=hsok.hs.next0;have hw:i64.wrap (st.hs.next+(ln:Int))=st.hs.next+ln:=w64 (by omega) (by omega);rw [hw] at h;refine h.append (m:=1) (ws:=q54 { kind:=3,ida:=r.ag,ide:=r.ep,seq:=st.hs.next+ln,reason:=J.reason,win:=J.win,gap:=J.gap }) sl39 12 rfl (h.ce_rd 0 rfl) rfl (q8r _) (by omega) (by omega) fun a5 c5 H10 h=>⟨_,_,_,rfl,?_⟩
  rw [w64 (x:=(ln:Int)+1) (by omega) (by omega)];refine⟨⟨ln+1,by omega,hlt,rfl,?_⟩,by dsimp only; omega⟩;rw [hjs];have e:flat q54 ((G ln).2++[{ kind:=3,ida:=r.ag,ide:=r.ep,seq:=st.hs.next+ln,reason:=J.reason,win:=J.win,gap:=J.gap }])=flat q54 (G ln).2++q54 { kind:=3,ida:=r.ag,ide:=r.ep,seq:=st.hs.next+ln,reason:=J.reason,win:=J.win,gap:=J.gap }:=by
   rw [q0i]; simp [flat]
  dsimp only;rw [e];exact h.o [4,5,6,7,8,9,10,12,13,14,15,16,17,18,19,20,21] 22
 ·have hge:ln=ready.length:=by have:=z54 hc; omega
  subst hge;refine⟨_,h.rd 16 rfl _,_,h.rd 16 rfl _,q02 ⟨_,h.rd 5 rfl _,_,q9q (h.o [9] 10),?_⟩⟩;refine h.al fun b7 _ h=>?_
  refine h.append (m:=1) (ws:=q54 { kind:=2,agent:=r.ag,epoch:=r.ep,next:=O.1.next }) sl39 8 rfl (h.ce_rd 0 rfl) rfl (q8r _) (by omega) (by omega) fun a5 c5 H10 h=>⟨_,_,_,rfl,?_⟩
  have e:flat q54 ((G ready.length).2++[{ kind:=2,agent:=r.ag,epoch:=r.ep,next:=O.1.next }])=flat q54 (G ready.length).2++q54 { kind:=2,agent:=r.ag,epoch:=r.ep,next:=O.1.next }:=by
   rw [q0i]; simp [flat]
  have hk:=k Q1 a5 c5 H10 hs1;rw [z51,jlen,e] at hk;refine hk ?_;have h:=h.o [13,6,7,10,12,1,14,15,2,3,4,5,16,11,8] 18;have h:SatL H10 (qhy Q1 bl s.sts r.ag.toNat::_):=qc2 hs1 h;have h:=h.o [1,2,3,4,0,5,6,7,8,9,10,11,12,13,14] 15;have h:SatL H10 (strA Q1 stb (G ready.length).1.st::_):=q1n.2 ⟨cb,hb,by rw [jck,jhs]; exact h⟩;have h:=h.o [1,0,2,3,4,5,6,7,8,9,10,11,12] 13;have h:=qaq hole h;have h:=h.o [1,2,3,4,5,6,7,0,8,9,10] 11;have h:SatL H10 (stA Q1 sb { s with now:=r.nw,ms:=(G ready.length).1.ms,cm:=(G ready.length).1.cm,sts:=s.sts.set r.ag.toNat (some (G ready.length).1.st) }::_):=q0f.2 ⟨p,h⟩;exact h.o [1,2,0] 3
end
end Go.Proofs.YtfmkddccnjidmaaGreatDoor
namespace Go.Nm
def Ot.z:Ot:=(⟨0,⟨#[]⟩⟩,Cl.z)
def qlt (first:Int)(outs:List Ot):Nat→List Eff
 | 0=>[]
 | n+1=>qlt first outs n++[{ kind:=4,number:=first+n,out:=outs.getD n Ot.z }]
theorem qry (first:Int)(outs:List Ot):∀n,(qlt first outs n).length=n
 | 0=>rfl
 | n+1=>by
  show (qlt first outs n++[_]).length=_;rw [z51,qry first outs n]; rfl
abbrev Sta.next (s:Sta):Int:=s.sunk+(s.kept.length:Int)
def z3o (s:Sta)(now:Int):List Ot:=q8f s.cm (q2i s.cfg.gd (s.ms.tick now).1.value)
def qky (s:Sta)(now:Int):Sta × List Eff:=
 ({ s with now:=now,ms:=(s.ms.tick now).1,cm:=qdl s.cm (q2i s.cfg.gd (s.ms.tick now).1.value),kept:=s.kept++z3o s now },qlt s.next (z3o s now) (z3o s now).length)
def z07 (s:Sta)(r:Rp):Sta:=match s.sts[r.ag.toNat]? with
 | some (some st)=>if r.nx≠st.hs.next∨r.st < st.last∨st.ck.held=true then { s with now:=r.nw } else
   if (q21 st.ck (flOf s.ms r.ag) r.nw r.st).2≠0 then { s with now:=r.nw } else
   { s with now:=r.nw,ms:=(s.ms.raise r.ag (q21 st.ck (flOf s.ms r.ag) r.nw r.st).1.lo).1,sts:=s.sts.set r.ag.toNat (some { st with last:=r.st }) }
 | _=>s
end Go.Nm
namespace Go.Proofs.YtfmkddccnjidmaaGreatDoor
open Go.Nm
section
variable {F L:List Assn} {H:Heap} {K KP:Value→Heap→Prop} {Q Q':Assn}
theorem qrz {sb:Nat}{s:Sta}{p:SAd}(h:SatL H F)(i:Nat)(hA:nth i F=cellsA sb (q46 s p) 115)(h0:0≤s.sunk)(hs:s.sunk≤4611686018427387903)(hk:s.kept.length≤1000000000000) :
  q1o Tryz.prog 134 #[PA sb 0] H (I64 s.next):=by
 refine qtt.call ⟨_,h.rd i hA _,_,_,_,h.rd i hA _,?_,rfl⟩;rw [w64 (by omega) (by omega)]
set_option maxHeartbeats 2000000 in
theorem Tick_spec {sb:Nat}{s:Sta}{now:Int}(ok:q2z s)(hs:s.sunk≤4611686018427387903)(hkl:s.kept.length≤100000000000)(h:SatL H (stA Q sb s::F))
  (k:∀a' c' H',SatL H' (slA 66 87 a' (qky s now).2.length c' (flat q54 (qky s now).2)::stA Q sb (qky s now).1::F)→K (.slice a' (qky s now).2.length c') H') :
  CF 73 #[PA sb 0,I64 now] H K:=by
 obtain⟨p,h⟩:=q0f.1 h;refine qe0.call ?_;unfold qe0.code;refine h.st 0 rfl rfl ?_;intro H1 h;refine⟨_,h.rd 0 rfl _,?_⟩;have h:=h.o [3,4,0,1,2,5,6,7,8] 9;refine Ma.Tick_spec ok.ms h fun H2 h=>⟨_,rfl,_,h.rd 2 rfl _,_,_,_,h.rds 2 rfl rfl,_,h.rd 2 rfl _,_,Ma.Value_spec h 0 rfl,?_⟩
 unfold qky z3o at k;generalize hM:(s.ms.tick now).1=M at *;refine qai (g:=s.cfg.gd) h fun H3 h=>⟨_,rfl,h.rd 2 rfl _,?_⟩
 have hcl:=ok.sh.len;have hcm:=ok.sh.m2;generalize q2i s.cfg.gd M.value=W at *;have h:=h.o [5,6,0,1,2,3,4,7,8] 9;refine qzc (by omega) h fun oa oc H4 h=>⟨_,_,_,rfl,?_⟩
 have hol:(q8f s.cm W).length≤1024:=by
  have h1:(q8f s.cm W).length≤(q0h s.cm).length:=by unfold q8f; exact (List.takeWhile_sublist _).length_le
  have h2:(q0h s.cm).length=s.cm.length:=by unfold q0h; rw [z5q,qgs]; simp [q03]
  omega
 generalize hO:q8f s.cm W=O at *;generalize qdl s.cm W=C at *;refine⟨fun la ln lc i H'=>∃(j:Nat) (ka:Option Addr) (kc:Nat),i=j∧j≤O.length∧ln=j∧
  SatL H' (slA 66 87 la j lc (flat q54 (qlt s.next O j))::slA 64 74 oa O.length oc (flat encO O)::cellsA sb (q46 { s with now:=now,kept:=s.kept++O.take j } { p with ka:=ka,kc:=kc }) 115::Ro.rollC p.rb p.rm s.cfg.agents::Ro.mapE p.rm s.rows::Ma.markC p.mb p.mm M::Ma.mapF p.mm M.m::shC p.hb p.hm s.cfg.cells::mapC p.hm C::strmA Q p.tm s.sts::
   slA 64 74 ka (s.kept++O.take j).length kc (flat encO (s.kept++O.take j))::F),
  fun _ _ _ i _=>O.length - i.toNat,⟨0,p.ka,p.kc,rfl,by omega,rfl,?_⟩,?_⟩
 ·rw [List.take_zero,z61];exact (h.sl_nil 66 87).o [0,1,6,7,8,4,5,2,3,9,10] 11
 rintro la ln lc i H5 ⟨j,ka,kc,rfl,hj,rfl,h⟩;unfold qe0.l1;have htl:(O.take ln).length=ln:=by rw [z5n]; omega
 refine⟨fun hc=>?_,fun hc=>?_⟩
 ·have hlt:ln < O.length:=by have:=z4z hc; omega
  have hrd:=h.sl_rd 1 rfl;have hels:=hrd.els q32 hlt;refine⟨by omega,_,_,hrd.some q32 (by omega) hlt,_,_,_,_,_,_,_,_,_,_,hels,?_⟩;refine h.al fun b1 _ h=>?_
  refine h.sta 0 rfl rfl fun H6 h=>?_
  have hn0:=ok.sunk;refine⟨_,qrz (s:=({ s with now:=now,kept:=s.kept++O.take ln }:Sta)) (p:={ p with ka:=ka,kc:=kc }) h 3 rfl hn0 hs (by show (s.kept++O.take ln).length≤_; rw [z51,htl]; omega),?_⟩;have hnx:({ s with now:=now,kept:=s.kept++O.take ln }:Sta).next=s.next+ln:=by
   show s.sunk+((s.kept++O.take ln).length:Int)=s.sunk+(s.kept.length:Int)+ln;rw [z51,htl]; omega
  rw [hnx];refine⟨_,_,_,_,_,_,_,_,_,_,h.rda 0 rfl,?_⟩;refine h.al fun b2 _ h=>?_
  refine h.append (m:=1) (ws:=q54 { kind:=4,number:=s.next+ln,out:=O[ln] }) sl39 2 rfl (h.ce_rd 0 rfl) rfl (q8r _) (by omega) (by omega) fun a5 c5 H7 h=>⟨_,_,_,rfl,?_⟩
  refine⟨_,_,_,h.rd 4 rfl _,_,_,_,_,_,_,_,_,_,_,h.rda 1 rfl,?_⟩;refine h.al fun b3 _ h=>⟨h.rd 5 rfl _,?_⟩
  refine h.append (m:=1) (ws:=encO O[ln]) sl86 13 rfl (h.ce_rd 0 rfl) rfl (q7v _) (by rw [z51,htl]; omega) (by rw [z51,htl]; omega) fun a6 c6 H8 h=>⟨_,_,_,rfl,?_⟩
  refine h.st 5 rfl rfl ?_;intro H9 h;rw [w64 (x:=(ln:Int)+1) (by omega) (by omega)];refine⟨⟨ln+1,a6,c6,by omega,hlt,rfl,?_⟩,by dsimp only; omega⟩;have e1:qlt s.next O (ln+1)=qlt s.next O ln++[{ kind:=4,number:=s.next+ln,out:=O[ln] }]:=by
   show qlt s.next O ln++[({ kind:=4,number:=s.next+ln,out:=O.getD ln Ot.z }:Eff)]=_;rw [qal _ hlt]
  have e2:flat q54 (qlt s.next O (ln+1))=flat q54 (qlt s.next O ln)++q54 { kind:=4,number:=s.next+ln,out:=O[ln] }:=by
   rw [e1,q0i]; simp [flat]
  have e3:s.kept++O.take (ln+1)=(s.kept++O.take ln)++[O[ln]]:=by rw [z6d hlt,z5d]
  have e4:flat encO (s.kept++O.take (ln+1))=flat encO (s.kept++O.take ln)++encO O[ln]:=by
   rw [e3,q0i]; simp [flat]
  have e5:(s.kept++O.take (ln+1)).length=(s.kept++O.take ln).length+1:=by rw [e3,z51]; rfl
  have e6:q46 ({ s with now:=now,kept:=s.kept++O.take (ln+1) }:Sta) { p with ka:=a6,kc:=c6 }=q2h (q46 ({ s with now:=now,kept:=s.kept++O.take ln }:Sta) { p with ka:=ka,kc:=kc }) 19 [.slice a6 ((s.kept++O.take ln).length+1) c6]:=by
   simp only [q46,e5]; rfl
  rw [e2,e4,e5,e6];exact h.o [3,4,5,6,7,8,9,10,11,12,13] 14
 ·have hge:ln=O.length:=by have:=z54 hc; omega
  subst hge;rw [z6p] at h;have hk:=k la lc H5;rw [qry] at hk;refine hk ?_;have h:=h.o [2,3,4,5,6,7,8,9,10,0] 11;have h:SatL H5 (stA Q sb { s with now:=now,ms:=M,cm:=C,kept:=s.kept++O }::_):=q0f.2 ⟨{ p with ka:=ka,kc:=kc },h⟩;exact h.o [1,0] 2
set_option maxHeartbeats 2000000 in
theorem z3p {sb:Nat}{s:Sta}{r:Rp}{a:Option Addr}{c:Nat}{st:Str}(ok:q2z s)(hag:0≤r.ag)(hst:s.sts[r.ag.toNat]?=some (some st))(h:SatL H (stA Q sb s::F))
  (k:∀H',SatL H' (stA Q sb (z07 s r)::F)→K (.tuple #[]) H') :
  CF 72 #[PA sb 0,.agg ⟨encR r a c⟩] H K:=by
 have hag':((r.ag.toNat:Nat):Int)=r.ag:=by omega
 have hsok:=ok.sts st (z5w hst);unfold z07 at k;rw [hst] at k;dsimp only at k;refine qop.call ?_;unfold qop.code;refine h.al fun b _ h=>⟨_,h.rd 0 rfl _,?_⟩
 have h:=h.o [1,0] 2;obtain⟨p,h⟩:=q0f.1 h;refine h.st 0 rfl rfl ?_;intro H1 h;have h:=h.o [7,0,1,2,3,4,5,6,8,9] 10;obtain⟨stb,bl,hole,h⟩:=q96 h hst;have h:=h.o [1,0,2,3,4,5,6,7,8,9,10,11] 12;obtain⟨cb,hb,h⟩:=q1n.1 h;have hptr:=qc3 hole h 3 rfl;rw [hag'] at hptr;have close:∀(ms:MS) (st':Str) H',SatL H' (cellsA stb [PA cb 0,PA hb 0,I64 st'.last] 149::ckA cb st'.ck::hldA Q hb st'.hs::mapA I64 ptV p.tm (tabP 0 bl)::qhy Q bl s.sts r.ag.toNat::cellsA sb (q46 { s with now:=r.nw } p) 115::Ro.rollC p.rb p.rm s.cfg.agents::Ro.mapE p.rm s.rows::Ma.markC p.mb p.mm ms::Ma.mapF p.mm ms.m::shC p.hb p.hm s.cfg.cells::mapC p.hm s.cm::slA 64 74 p.ka s.kept.length p.kc (flat encO s.kept)::F)→
   SatL H' (stA Q sb { s with now:=r.nw,ms:=ms,sts:=s.sts.set r.ag.toNat (some st') }::F):=by
  intro ms st' H' h;have h:=q1n.2 ⟨cb,hb,h⟩;have h:=h.o [1,0,2,3,4,5,6,7,8,9,10] 11;have h:=qaq hole h;exact q0f.2 ⟨p,h.o [1,2,3,4,5,6,7,0,8] 9⟩
 have hsame:s.sts.set r.ag.toNat (some st)=s.sts:=by
  have hlt:r.ag.toNat < s.sts.length:=(List.getElem?_eq_some_iff.1 hst).1;have:s.sts[r.ag.toNat]=some st:=by rw [List.getElem?_eq_getElem hlt] at hst; exact Option.some.inj hst
  rw [← this,z79]
 refine⟨_,h.rd 5 rfl _,_,h.rd 13 rfl _,_,hptr,_,h.rd 13 rfl _,q02 ⟨_,h.rd 0 rfl _,_,q9q (h.o [2] 3),_,fun _=>h.rd 13 rfl _,fun _=>trivial,_,fun _=>h.rd 0 rfl _,fun _=>trivial,_,fun _=>h.rd 0 rfl 0,_,fun _=>qbu (h.o [1] 2),fun hc=>?_,fun hc=>?_⟩⟩
 ·have hc:r.nx≠st.hs.next∨r.st < st.last∨st.ck.held=true:=by
   simp only [z5h,z5k,z58,z52] at hc
   rcases hc with (hc|hc)|hc
   ·exact .inl hc
   ·exact .inr (.inl hc)
   ·exact .inr (.inr hc)
  rw [if_pos hc] at k;have h:=close s.ms st _ (h.o [0,1,2,3,4,5,6,7,8,9,10,11,12] 14);rw [hsame] at h;exact k _ h
 have hc:¬(r.nx≠st.hs.next∨r.st < st.last∨st.ck.held=true):=by
  simp only [z5g,z67,z58,z52] at hc;rintro (h1|h1|h1)
  ·exact h1 hc.1.1
  ·exact hc.1.2 h1
  ·rw [hc.2] at h1; cases h1
 rw [if_neg hc] at k;refine⟨_,h.rd 13 rfl _,_,h.rd 13 rfl _,?_⟩;have h:=h.o [5,8,9,0,1,2,3,4,6,7,10,11,12,13] 14;refine qku (a:=r.ag) (stamp:=r.st) (now:=r.nw) hsok.ck.len rfl rfl h fun H3 h=>⟨_,_,_,rfl,?_⟩
 generalize q21 st.ck (flOf s.ms r.ag) r.nw r.st=T at *;refine h.al fun b1 _ h=>?_
 refine h.st 0 rfl rfl ?_;intro H4 h;refine⟨fun hc=>?_,fun hc=>?_⟩
 ·rw [if_pos (by simpa using hc)] at k;have h:=close s.ms st _ (h.o [4,5,6,7,8,1,9,10,2,3,11,12,13] 15);rw [hsame] at h;exact k _ h
 ·rw [if_neg (by simpa using hc)] at k;refine⟨_,h.rd 14 rfl _,q02 ?_⟩;refine h.st 4 rfl rfl ?_;intro H5 h;refine⟨_,h.rd 1 rfl _,_,h.rd 14 rfl _,_,h.rd 0 rfl _,?_⟩;have h:=h.o [2,3,0,1,4,5,6,7,8,9,10,11,12,13,14] 15;refine Ma.Raise_spec (a:=r.ag) (t:=T.1.lo) h fun H6 h=>⟨_,rfl,?_⟩
  exact k _ (close _ { st with last:=r.st } _ (h.o [4,5,6,7,8,3,9,10,0,1,11,12,13] 15))
end
end Go.Proofs.YtfmkddccnjidmaaGreatDoor
namespace Go.Nm
def isE (s:Sta)(a ep:Int):Bool:=decide (0 < (rowE s.rows a).epoch) && decide ((rowE s.rows a).epoch=ep)
def q8t (s:Sta)(a:Int):Option Str:=if a < 0 then none else (s.sts[a.toNat]?).join
def qkz (s:Sta)(r:Rp)(now:Int):Int:=
 if 0 < r.ep∧isE s r.ag r.ep=false then 22 else
 if now < s.now then 11 else
 if r.kind=4 then (match q8t s r.ag with
  | some st=>if st.ck.smps.length=0∧st.ck.held=false then 19 else 0
  | none=>0) else 0
def q2j (s:Sta)(r:Rp):Int:=
 if r.kind=1 then (if 1099511627776≤s.boots then 17 else 0) else
 if r.kind=7 then (if s.next < r.nx then 11 else 0) else
 qkz s r (if r.kind=3 then r.sm.came else r.nw)
structure RLim (r:Rp):Prop where
 kind:1≤r.kind∧r.kind≤7
 ag:0≤r.ag∧r.ag≤63
 ep:(r.kind=3∨r.kind=4∨r.kind=5→1≤r.ep)∧0≤r.ep∧r.ep≤1099511627776
 bt:(r.kind=2→1≤r.bt)∧0≤r.bt∧r.bt≤1099511627776
 nx:0≤r.nx∧r.nx≤1099511627776
 st:0≤r.st∧r.st≤4611686018427387903
 nw:isT r.nw
 sm:r.sm.ok
 evs:r.kind=4→q5w r.nx r.evs=true
 none:r.kind≠4→r.evs=[]
theorem q3h {r:Rp}(h:r.right=true):RLim r:=by
 unfold Rp.right at h;rw [z56,z56,z56] at h;obtain⟨⟨⟨h1,h2⟩,h3⟩,h4⟩:=h;unfold Rp.lim at h4;simp only [inM,z56,z52] at h1 h4;obtain⟨⟨⟨⟨⟨⟨h5,h6⟩,h7⟩,h8⟩,h9⟩,h10⟩,h11⟩:=h4;refine⟨h1,h5,⟨fun hk=>?_,?_,h6.2⟩,⟨fun hk=>?_,?_,h7.2⟩,h8,h9,h10,h11,fun hk=>?_,fun hk=>?_⟩
 ·rw [if_pos hk] at h6; exact h6.1
 ·have:=h6.1; split at this <;> omega
 ·rw [if_pos hk] at h7; exact h7.1
 ·have:=h7.1; split at this <;> omega
 ·rw [if_pos hk] at h3; exact h3
 ·rw [if_neg hk] at h3;exact z7t.1 (z4z h3)
theorem rowE_at {rows:List En}{a:Int}(h:0 < (rowE rows a).epoch):0≤a∧∃e,rows[a.toNat]?=some e∧0 < e.epoch:=by
 unfold rowE at h
 split at h
 ·simp [En.z] at h
 ·refine⟨by omega,?_⟩
  cases e:rows[a.toNat]? with
  | none=>rw [e] at h; simp [En.z] at h
  | some x=>rw [e] at h; exact⟨x,rfl,h⟩
theorem q2z.str {s:Sta}(ok:q2z s){a:Int}(h:0 < (rowE s.rows a).epoch):0≤a∧∃st,s.sts[a.toNat]?=some (some st):=by
 obtain⟨h0,e,h1,h2⟩:=rowE_at h;exact⟨h0,(ok.reg a.toNat).2 ⟨e,h1,h2⟩⟩
theorem qd7 {s:Sta}{a:Int}{st:Str}(h0:0≤a)(h:s.sts[a.toNat]?=some (some st)):q8t s a=some st:=by
 unfold q8t; rw [if_neg (by omega),h]; rfl
end Go.Nm
namespace Go.Proofs.YtfmkddccnjidmaaGreatDoor
open Go.Nm
section
variable {F L:List Assn} {H:Heap} {K KP:Value→Heap→Prop} {Q Q':Assn}
set_option maxHeartbeats 2000000 in
theorem qv4 {sb:Nat}{s:Sta}{r:Rp}{a:Option Addr}{c:Nat}(ok:q2z s)(hs:s.sunk≤4611686018427387903)(hkl:s.kept.length≤100000000000)(hr:r.right=true)(h:SatL H (stA Q sb s::F))
  (k:∀H',SatL H' (stA Q sb s::F)→K (I64 (q2j s r)) H') :
  CF 66 #[PA sb 0,.agg ⟨encR r a c⟩] H K:=by
 refine q1l.call ?_;unfold q1l.code;refine h.al fun b H0 h=>⟨_,h.rd 0 rfl _,?_⟩
 have h:=h.o [1,0] 2;obtain⟨p,h⟩:=q0f.1 h;have fin:∀H',SatL H' (cellsA sb (q46 s p) 115::Ro.rollC p.rb p.rm s.cfg.agents::Ro.mapE p.rm s.rows::Ma.markC p.mb p.mm s.ms::Ma.mapF p.mm s.ms.m::shC p.hb p.hm s.cfg.cells::mapC p.hm s.cm::strmA Q p.tm s.sts::slA 64 74 p.ka s.kept.length p.kc (flat encO s.kept)::cellsA b (encR r a c) 46::F)→SatL H' (stA Q sb s::F):=fun H' h=>by
  have h:=q0f.2 ⟨p,h⟩;exact h.o [0] 2
 unfold q2j at k;refine⟨_,h.rd 9 rfl _,fun hc=>?_,fun hc=>⟨fun hc7=>?_,fun hc7=>?_⟩⟩
 ·rw [if_pos (z4z hc)] at k;refine⟨_,h.rd 0 rfl _,fun hb=>?_,fun hb=>?_⟩
  ·rw [if_pos (z4z hb)] at k; exact k _ (fin _ h)
  ·rw [if_neg (z54 hb)] at k; exact k _ (fin _ h)
 ·rw [if_neg (z54 hc),if_pos (z4z hc7)] at k;refine⟨_,h.rd 9 rfl _,_,qrz h 0 rfl ok.sunk hs (by omega),fun hb=>?_,fun hb=>?_⟩
  ·rw [if_pos (z4z hb)] at k; exact k _ (fin _ h)
  ·rw [if_neg (z54 hb)] at k; exact k _ (fin _ h)
 rw [if_neg (z54 hc),if_neg (z54 hc7)] at k;have hL:=q3h hr;intro Jn hJ;have main:∀now,(∀H',SatL H' (stA Q sb s::F)→K (I64 (qkz s r now)) H')→Jn now H0:=by
  intro now k;refine hJ _ _ ?_;unfold q1l.r3;intro Jn1 hJ1;unfold qkz at k;have nxt:∀(t:Bool) H',t=decide (0 < r.ep∧isE s r.ag r.ep=false)→SatL H' (cellsA sb (q46 s p) 115::Ro.rollC p.rb p.rm s.cfg.agents::Ro.mapE p.rm s.rows::Ma.markC p.mb p.mm s.ms::Ma.mapF p.mm s.ms.m::shC p.hb p.hm s.cfg.cells::mapC p.hm s.cm::strmA Q p.tm s.sts::slA 64 74 p.ka s.kept.length p.kc (flat encO s.kept)::cellsA b (encR r a c) 46::F)→Jn1 t H':=by
   rintro t H' rfl h;refine hJ1 _ _ ?_;unfold q1l.r2;refine⟨fun ht=>?_,fun ht=>?_⟩
   ·rw [if_pos (z4z ht)] at k;exact k _ (fin _ h)
   have ht:=z54 ht;rw [if_neg ht] at k;refine⟨_,h.rd 0 rfl _,fun hn=>?_,fun hn=>?_⟩
   ·rw [if_pos (z4z hn)] at k;exact k _ (fin _ h)
   rw [if_neg (z54 hn)] at k;refine⟨_,h.rd 9 rfl _,?_⟩;intro Jn2 hJ2;refine⟨fun h4=>?_,fun h4=>?_⟩
   ·have h4:=z4z h4;rw [if_pos h4] at k;have hep:=hL.ep.1 (.inr (.inl h4));have his:isE s r.ag r.ep=true:=by
     cases e:isE s r.ag r.ep
     ·exact absurd ⟨by omega,e⟩ ht
     ·rfl
    unfold isE at his;rw [z56] at his;obtain⟨ha0,st,hst⟩:=ok.str (z4z his.1);rw [qd7 ha0 hst] at k;dsimp only at k;have hsok:=ok.sts st (z5w hst);have hag':((r.ag.toNat:Nat):Int)=r.ag:=by omega
    have h:=h.o [7,0,1,2,3,4,5,6,8,9] 10;obtain⟨stb,bl,hole,h⟩:=q96 h hst;have h:=h.o [1,0,2,3,4,5,6,7,8,9,10,11] 12;obtain⟨cb,hb,h⟩:=q1n.1 h;have hptr:=qc3 hole h 3 rfl;rw [hag'] at hptr;have hsame:s.sts.set r.ag.toNat (some st)=s.sts:=by
     have hlt:r.ag.toNat < s.sts.length:=(List.getElem?_eq_some_iff.1 hst).1;have:s.sts[r.ag.toNat]=some st:=by rw [List.getElem?_eq_getElem hlt] at hst; exact Option.some.inj hst
     rw [← this,z79]
    refine⟨_,h.rd 5 rfl _,_,h.rd 13 rfl _,_,hptr,q02 ⟨_,h.rd 0 rfl 0,?_⟩⟩;have h:=h.o [1,0,2,3,4,5,6,7,8,9,10,11,12,13] 14;have hl8:=hsok.ck.len;refine qbv h (by omega) fun sa sc H2 h=>⟨_,_,_,rfl,fun _=>trivial,_,fun _=>h.rd 2 rfl 0,_,fun _=>qbu (h.o [1] 2),?_⟩
    have back:SatL H2 (cellsA sb (q46 s p) 115::Ro.rollC p.rb p.rm s.cfg.agents::Ro.mapE p.rm s.rows::Ma.markC p.mb p.mm s.ms::Ma.mapF p.mm s.ms.m::shC p.hb p.hm s.cfg.cells::mapC p.hm s.cm::strmA Q p.tm s.sts::slA 64 74 p.ka s.kept.length p.kc (flat encO s.kept)::cellsA b (encR r a c) 46::F):=by
     have h:=h.o [2,1,3,4,5,6,7,8,9,10,11,12,13,14] 15;have h:=q1n.2 ⟨cb,hb,h⟩;have h:=h.o [1,0,2,3,4,5,6,7,8,9,10,11] 12;have h:=qaq hole h;rw [hsame] at h;exact h.o [1,2,3,4,5,6,7,0,8,9] 10
    refine⟨fun hx=>?_,fun hx=>?_⟩
    ·have hx:st.ck.smps.length=0∧st.ck.held=false:=by
      simp only [z56,z52,z5k] at hx;exact⟨by omega,hx.2⟩
     rw [if_pos hx] at k;exact k _ (fin _ back)
    ·have hx:¬(st.ck.smps.length=0∧st.ck.held=false):=by
      rintro⟨h1,h2⟩;rw [h1,h2] at hx;simp at hx
     rw [if_neg hx] at k;refine hJ2 _ ?_;unfold q1l.r1;exact k _ (fin _ back)
   ·rw [if_neg (z54 h4)] at k;refine hJ2 _ ?_;unfold q1l.r1;exact k _ (fin _ h)
  refine⟨_,h.rd 9 rfl _,fun _=>trivial,_,fun _=>h.rd 0 rfl _,_,fun _=>h.rd 9 rfl _,_,fun _=>h.rd 9 rfl _,fun he=>?_,fun he=>?_⟩
  ·have he:=z4z he;have h:=h.o [1,2,0,3,4,5,6,7,8,9] 10;refine Ro.Is_spec ok.rows (agent:=r.ag) (epoch:=r.ep) h fun H2 h=>⟨_,rfl,?_⟩
   refine nxt _ _ ?_ (h.o [2,0,1,3,4,5,6,7,8,9] 10);show (!isE s r.ag r.ep)=_;rw [z65,z52]
   constructor
   ·intro hx; exact⟨he,by simpa using hx⟩
   ·rintro⟨_,hx⟩; rw [hx]; rfl
  ·have he:¬0 < r.ep:=fun hx=>he (z5m hx)
   refine nxt _ _ ?_ h
   symm
   exact z6m fun hx=>he hx.1
 refine⟨fun h3=>?_,fun h3=>?_⟩
 ·rw [if_pos (z4z h3)] at k;exact⟨_,h.rd 9 rfl _,main _ k⟩
 ·rw [if_neg (z54 h3)] at k;exact main _ k
end
end Go.Proofs.YtfmkddccnjidmaaGreatDoor
namespace Go.Nm
def qc4 (c:Cfg):Str:=⟨⟨c.rho,c.trust,false,0,[]⟩,⟨0,c.hold,[]⟩,-1⟩
def qn8 (a ep n:Int):Eff:={ kind:=3,ida:=a,ide:=ep,seq:=n,reason:=5 }
def oldE (s:Sta)(a:Int):List Eff:=match q8t s a with
 | some st=>(q03 st.hs.rows).map (qn8 a (rowE s.rows a).epoch)
 | none=>[]
def oldM (s:Sta)(a:Int):MS:=match q8t s a with
 | some _=>(s.ms.leave a).1
 | none=>s.ms
def qc5 (s:Sta)(r:Rp):Sta × List Eff × Int:=
 if (q1w s.cfg.agents s.rows r.ag r.bt r.nw).2.2.2≠0 then (s,[],(q1w s.cfg.agents s.rows r.ag r.bt r.nw).2.2.2) else
 if (q1w s.cfg.agents s.rows r.ag r.bt r.nw).2.2.1 then
  ({ s with now:=r.nw,rows:=(q1w s.cfg.agents s.rows r.ag r.bt r.nw).1,ms:=((oldM s r.ag).join r.ag r.nw).1,sts:=s.sts.set r.ag.toNat (some (qc4 s.cfg)) },
   oldE s r.ag++[{ kind:=1,agent:=r.ag,epoch:=(q1w s.cfg.agents s.rows r.ag r.bt r.nw).2.1.epoch,boot:=(q1w s.cfg.agents s.rows r.ag r.bt r.nw).2.1.boot }],0)
 else ({ s with now:=r.nw,rows:=(q1w s.cfg.agents s.rows r.ag r.bt r.nw).1 },[{ kind:=1,agent:=r.ag,epoch:=(q1w s.cfg.agents s.rows r.ag r.bt r.nw).2.1.epoch,boot:=(q1w s.cfg.agents s.rows r.ag r.bt r.nw).2.1.boot }],0)
theorem z3q {most:Int}{rows:List En}{a b n:Int}(h:(q1w most rows a b n).2.2.2≠0):(q1w most rows a b n).1=rows:=by
 unfold q1w at h ⊢
 split
 ·rfl
 ·rename_i h1;rw [if_neg h1] at h;dsimp only at h ⊢
  split
  ·rfl
  ·rename_i h2;rw [if_neg h2] at h
   split
   ·rfl
   ·rename_i h3;rw [if_neg h3] at h
    split
    ·rfl
    ·rename_i h4;rw [if_neg h4] at h
     split
     ·rfl
     ·rename_i h5;rw [if_neg h5] at h;simp at h
end Go.Nm
namespace Go.Proofs.YtfmkddccnjidmaaGreatDoor
open Go.Nm
section
variable {F L:List Assn} {H:Heap} {K KP:Value→Heap→Prop} {Q Q':Assn}
theorem z3r {tm k b:Nat}{bl:List (Option Nat)}{sts:List (Option Str)}{s:Str}(hm:bl.map Option.isSome=sts.map Option.isSome)(hk:k < sts.length)
  (h:SatL H (mapA I64 ptV tm (mset ((k:Nat):Int) (some b) (tabP 0 bl))::strA Q b s::qhy Q bl sts k::F)):SatL H (strmA Q tm (sts.set k (some s))::F):=by
 have hbl:bl.length=sts.length:=by have:=congrArg List.length hm; simpa using this
 have e:=qd6 (Q:=Q) (b:=b) (s:=s) (bl:=bl.set k none) (sts:=sts.set k none) (k:=k) (by rw [List.getElem?_set_self (by omega)]) (by rw [List.getElem?_set_self (by omega)]);rw [List.set_set,List.set_set] at e;have hp:=qpb (b:=b) (l:=bl) (i:=0) (k:=k) (by omega);rw [z5p] at hp;rw [← q82 (r:=tm) hp] at h;refine q74.2 ⟨bl.set k (some b),?_,?_⟩
 ·rw [List.map_set,List.map_set,hm]; rfl
 ·rw [← e];have h:=h.o [1,2,0] 3;have h:=q2m.2 h;exact h.o [1,0] 2
theorem qn9 {sb:Nat}{s:Sta}{p:SAd}(ok:qde s.cfg)(h:SatL H (cellsA sb (q46 s p) 115::F))
  (k:∀b H',SatL H' (strA Q b (qc4 s.cfg)::cellsA sb (q46 s p) 115::F)→K (PA b 0) H'):CF 105 #[PA sb 0] H K:=by
 refine qon.call ?_;refine⟨_,h.rd 0 rfl _,_,h.rd 0 rfl _,?_⟩;refine qml h (fun hn=>absurd ok.rate hn) fun _ cb H1 h=>⟨_,_,rfl,_,h.rd 1 rfl _,?_⟩
 refine qkj (Q:=Q) h (fun hn=>absurd ok.hd (by omega)) fun hb H2 _ h=>⟨_,_,rfl,?_⟩
 refine h.al fun b _ h=>?_
 refine k b _ (q1n.2 ⟨cb,hb,?_⟩);exact h.o [0,2,1,3] 4
set_option maxHeartbeats 4000000 in
theorem Grant_spec {sb:Nat}{s:Sta}{r:Rp}{a:Option Addr}{c:Nat}(ok:q2z s)(hr:r.right=true)(hk2:r.kind=2)(h:SatL H (stA Q sb s::F))
  (k:∀a' c' H',SatL H' (slA 66 87 a' (qc5 s r).2.1.length c' (flat q54 (qc5 s r).2.1)::stA Q sb (qc5 s r).1::F)→K (.tuple #[.slice a' (qc5 s r).2.1.length c',I64 (qc5 s r).2.2]) H') :
  CF 67 #[PA sb 0,.agg ⟨encR r a c⟩] H K:=by
 have hL:=q3h hr;have hag':((r.ag.toNat:Nat):Int)=r.ag:=by have:=hL.ag; omega
 refine q1k.call ?_;unfold q1k.code;refine h.al fun b H0 h=>?_
 have h:=h.o [1,0] 2;obtain⟨p,h⟩:=q0f.1 h;intro Jn hJ;have main:∀bb H',SatL H' (cellsA bb (encE (rowE s.rows r.ag)) 78::cellsA sb (q46 s p) 115::Ro.rollC p.rb p.rm s.cfg.agents::Ro.mapE p.rm s.rows::Ma.markC p.mb p.mm s.ms::Ma.mapF p.mm s.ms.m::shC p.hb p.hm s.cfg.cells::mapC p.hm s.cm::strmA Q p.tm s.sts::slA 64 74 p.ka s.kept.length p.kc (flat encO s.kept)::cellsA b (encR r a c) 46::F)→Jn bb 0 H':=by
  intro bb H1 h;refine hJ _ _ _ ?_;unfold q1k.r5;intro Jn1 hJ1;unfold qc5 at k;have hgerr:=z3q (most:=s.cfg.agents) (rows:=s.rows) (a:=r.ag) (b:=r.bt) (n:=r.nw);have main2:∀eb H',SatL H' (cellsA eb (encE (q1w s.cfg.agents s.rows r.ag r.bt r.nw).2.1) 78::cellsA bb (encE (rowE s.rows r.ag)) 78::cellsA sb (q46 s p) 115::Ro.rollC p.rb p.rm s.cfg.agents::Ro.mapE p.rm (q1w s.cfg.agents s.rows r.ag r.bt r.nw).1::Ma.markC p.mb p.mm s.ms::Ma.mapF p.mm s.ms.m::shC p.hb p.hm s.cfg.cells::mapC p.hm s.cm::strmA Q p.tm s.sts::slA 64 74 p.ka s.kept.length p.kc (flat encO s.kept)::cellsA b (encR r a c) 46::F)→
    Jn1 eb 0 (q1w s.cfg.agents s.rows r.ag r.bt r.nw).2.2.1 (q1w s.cfg.agents s.rows r.ag r.bt r.nw).2.2.2 H':=by
   intro eb H2 h;refine hJ1 _ _ _ _ _ ?_;unfold q1k.r4;generalize q1w s.cfg.agents s.rows r.ag r.bt r.nw=G at *;refine⟨fun he=>?_,fun he=>?_⟩
   ·have he:G.2.2.2≠0:=by simpa using he
    rw [if_pos he] at k;rw [hgerr he] at h;have h:=h.o [2,3,4,5,6,7,8,9,10] 12;have h:=q0f.2 ⟨p,h⟩;exact k none 0 _ (h.sl_nil 66 87)
   have he:¬G.2.2.2≠0:=by simpa using he
   rw [if_neg he] at k;refine⟨_,h.rd 11 rfl _,?_⟩;refine h.st 2 rfl rfl ?_;intro H3 h;intro Jn2 hJ2;have fin:∀(effs:List Eff) (la:Option Addr) (lc:Nat) (s':Sta) (p':SAd) H',effs.length≤1000000→(∀a' c' H'',SatL H'' (slA 66 87 a' (effs.length+1) c' (flat q54 (effs++[{ kind:=1,agent:=r.ag,epoch:=G.2.1.epoch,boot:=G.2.1.boot }]))::stA Q sb s'::F)→K (.tuple #[.slice a' (effs.length+1) c',I64 0]) H'')→
     SatL H' (slA 66 87 la effs.length lc (flat q54 effs)::cellsA eb (encE G.2.1) 78::cellsA b (encR r a c) 46::stA Q sb s'::F)→Jn2 la effs.length lc H':=by
    intro effs la lc s' p' H4 hel kk h;refine hJ2 _ _ _ _ ?_;unfold q1k.r1;refine⟨_,h.rd 2 rfl _,_,h.rd 1 rfl _,_,h.rd 1 rfl _,?_⟩;refine h.al fun b1 _ h=>?_
    refine h.append (m:=1) (ws:=q54 { kind:=1,agent:=r.ag,epoch:=G.2.1.epoch,boot:=G.2.1.boot }) sl39 1 rfl (h.ce_rd 0 rfl) rfl (q8r _) (by omega) (by omega) fun a5 c5 H5 h=>⟨_,_,_,rfl,?_⟩
    refine kk _ _ _ ?_;rw [q0i,show flat q54 [({ kind:=1,agent:=r.ag,epoch:=G.2.1.epoch,boot:=G.2.1.boot }:Eff)]=q54 { kind:=1,agent:=r.ag,epoch:=G.2.1.epoch,boot:=G.2.1.boot } by simp [flat]];exact h.o [1,4] 5
   refine⟨fun hf=>?_,fun hf=>?_⟩
   ·rw [if_pos hf] at k;have hlt:r.ag.toNat < s.sts.length:=by have:=ok.len; have:=hL.ag; omega
    have fresh:∀(bl:List (Option Nat)) (la:Option Addr) (lc:Nat) H',bl.map Option.isSome=s.sts.map Option.isSome→(oldE s r.ag).length≤1000000→
      SatL H' (slA 66 87 la (oldE s r.ag).length lc (flat q54 (oldE s r.ag))::mapA I64 ptV p.tm (tabP 0 bl)::qhy Q bl s.sts r.ag.toNat::Ma.markC p.mb p.mm (oldM s r.ag)::Ma.mapF p.mm (oldM s r.ag).m::cellsA eb (encE G.2.1) 78::cellsA sb (q46 { s with now:=r.nw } p) 115::Ro.rollC p.rb p.rm s.cfg.agents::Ro.mapE p.rm G.1::shC p.hb p.hm s.cfg.cells::mapC p.hm s.cm::slA 64 74 p.ka s.kept.length p.kc (flat encO s.kept)::cellsA b (encR r a c) 46::F)→
      q1k.r2 sb 0 b Jn2 la (oldE s r.ag).length lc H':=by
     intro bl la lc H4 hm hel h;unfold q1k.r2;refine⟨_,h.rd 6 rfl _,_,h.rd 12 rfl _,?_⟩;have h:=h.o [6,0,1,2,3,4,5,7,8,9,10,11,12] 13;refine qn9 (s:=({ s with now:=r.nw }:Sta)) (Q:=Q) ok.cfg h fun nb H5 h=>⟨_,rfl,h.rd 13 rfl _,h.rd 1 rfl _,?_⟩
     rw [← hag'];refine h.mp_update (α:=Option Nat) (v:=some nb) (x:=((r.ag.toNat:Nat):Int)) z3e ko2 3 rfl fun H6 h=>?_
     rw [hag'];refine⟨_,h.rd 1 rfl _,_,h.rd 13 rfl _,_,h.rd 13 rfl _,?_⟩;have h:=h.o [5,6,0,1,2,3,4,7,8,9,10,11,12,13] 14;refine Ma.Join_spec (a:=r.ag) (t:=r.nw) h fun H7 h=>⟨_,rfl,?_⟩
     refine fin (oldE s r.ag) la lc { s with now:=r.nw,rows:=G.1,ms:=((oldM s r.ag).join r.ag r.nw).1,sts:=s.sts.set r.ag.toNat (some (qc4 s.cfg)) } p _ hel (fun a' c' H'' h=>?_) ?_
     ·have hk:=k a' c' H'';rw [z51] at hk;exact hk h
     ·
      have h:=h.o [5,2,6,0,1,3,4,7,8,9,10,11,12,13] 14;rw [← hag'] at h;have h:=z3r hm hlt h;rw [hag'] at h;have h:=h.o [3,6,7,1,2,8,9,0,10,4,5,11] 12;have h:SatL H7 (stA Q sb { s with now:=r.nw,rows:=G.1,ms:=((oldM s r.ag).join r.ag r.nw).1,sts:=s.sts.set r.ag.toNat (some (qc4 s.cfg)) }::_):=q0f.2 ⟨p,h⟩;exact h.o [1,2,3,0] 4
    refine⟨_,h.rd 2 rfl _,_,h.rd 11 rfl _,?_⟩;have hcase:(∃st,s.sts[r.ag.toNat]?=some (some st))∨s.sts[r.ag.toNat]?=some none:=by
     rw [List.getElem?_eq_getElem hlt]
     cases s.sts[r.ag.toNat] with
     | none=>exact .inr rfl
     | some st=>exact .inl ⟨st,rfl⟩
    rcases hcase with ⟨st,hst⟩|hst
    ·have hsok:=ok.sts st (z5w hst);have hsa:=qd7 hL.ag.1 hst;have hoE:oldE s r.ag=(q03 st.hs.rows).map (qn8 r.ag (rowE s.rows r.ag).epoch):=by unfold oldE; rw [hsa]
     have hoM:oldM s r.ag=(s.ms.leave r.ag).1:=by unfold oldM; rw [hsa]
     have h:=h.o [9,0,1,2,3,4,5,6,7,8,10,11] 12;obtain⟨stb,bl,hole,h⟩:=q96 h hst;have h:=h.o [1,0,2,3,4,5,6,7,8,9,10,11,12,13] 14;obtain⟨cb,hb,h⟩:=q1n.1 h;have hptr:=qc3 hole h 3 rfl;rw [hag'] at hptr;refine⟨_,hptr,?_⟩;intro Jn3 hJ3;refine⟨fun _=>q02 ⟨_,h.rd 0 rfl _,?_⟩,fun hn=>absurd hn (by simp)⟩
     have h:=h.o [2,0,1,3,4,5,6,7,8,9,10,11,12,13,14,15] 16;have hrl:=hsok.hs.rows.length;have hm2:=hsok.hs.most2;have hrl':st.hs.rows.length≤256:=by omega
     refine qao h hsok.hs.rows.rising (fun q hq=>by
      have h1:=(hsok.rows q hq).1;have h2:=(hsok.hs.rows.inb q hq).1;have h3:=hsok.hs.next0;unfold wf64; omega) (by omega) fun wa wc H4 h=>⟨_,_,_,rfl,?_⟩
     have hkl:(q03 st.hs.rows).length=st.hs.rows.length:=by simp [q03]
     refine⟨fun la ln lc i H'=>∃j:Nat,i=j∧j≤st.hs.rows.length∧ln=j∧
      SatL H' (slA 66 87 la j lc (flat q54 (((q03 st.hs.rows).take j).map (qn8 r.ag (rowE s.rows r.ag).epoch)))::slA 2 1 wa st.hs.rows.length wc ((q03 st.hs.rows).map I64)::mapA I64 ptV p.tm (tabP 0 bl)::qhy Q bl s.sts r.ag.toNat::cellsA eb (encE G.2.1) 78::cellsA bb (encE (rowE s.rows r.ag)) 78::cellsA sb (q46 { s with now:=r.nw } p) 115::Ro.rollC p.rb p.rm s.cfg.agents::Ro.mapE p.rm G.1::Ma.markC p.mb p.mm s.ms::Ma.mapF p.mm s.ms.m::shC p.hb p.hm s.cfg.cells::mapC p.hm s.cm::slA 64 74 p.ka s.kept.length p.kc (flat encO s.kept)::cellsA b (encR r a c) 46::F),
      fun _ _ _ i _=>st.hs.rows.length - i.toNat,⟨0,rfl,by omega,rfl,(h.sl_nil 66 87).o [0,1,5,6,7,8,9,10,11,12,13,14,15,16,17] 18⟩,?_⟩
     rintro la ln lc i H5 ⟨j,rfl,hj,rfl,h⟩;unfold q1k.l3;refine⟨fun hc=>?_,fun hc=>?_⟩
     ·have hlt:ln < st.hs.rows.length:=by have:=z4z hc; omega
      have hltk:ln < (q03 st.hs.rows).length:=by omega
      have hrd:=(h.sl_rd 1 rfl).at hltk;refine⟨by omega,_,_,hrd.1,_,hrd.2,_,h.rd 14 rfl _,_,h.rd 5 rfl _,?_⟩;refine h.al fun b3 _ h=>?_
      refine h.append (m:=1) (ws:=q54 (qn8 r.ag (rowE s.rows r.ag).epoch (q03 st.hs.rows)[ln])) sl39 1 rfl (h.ce_rd 0 rfl) rfl (q8r _) (by omega) (by omega) fun a5 c5 H7 h=>⟨_,_,_,rfl,?_⟩
      rw [w64 (x:=(ln:Int)+1) (by omega) (by omega)];refine⟨⟨ln+1,by omega,hlt,rfl,?_⟩,by dsimp only; omega⟩;rw [z6d hltk,z5v,q0i,show flat q54 ([(q03 st.hs.rows)[ln]].map (qn8 r.ag (rowE s.rows r.ag).epoch))=q54 (qn8 r.ag (rowE s.rows r.ag).epoch (q03 st.hs.rows)[ln]) by simp [flat]];exact h.o [1,2,3,4,5,6,7,8,9,10,11,12,13,14,15] 16
     ·have hge:ln=st.hs.rows.length:=by have:=z54 hc; omega
      subst hge;rw [z5o (by omega),← hoE] at h;have hoel:(oldE s r.ag).length=st.hs.rows.length:=by rw [hoE,z5q,hkl]
      refine⟨_,h.rd 6 rfl _,_,h.rd 14 rfl _,?_⟩;have h:=h.o [9,10,0,1,2,3,4,5,6,7,8,11,12,13,14] 15;refine Ma.Leave_spec (a:=r.ag) h fun H6 h=>⟨_,rfl,?_⟩
      rw [← hoM] at h;refine hJ3 _ _ _ _ ?_;rw [← hoel] at h ⊢;exact fresh bl la lc H6 hole.m (by omega) (h.o [2,4,5,0,1,6,8,9,10,11,12,13,14] 15)
    ·have hsa:q8t s r.ag=none:=by unfold q8t; rw [if_neg (by have:=hL.ag; omega),hst]; rfl
     have hoE:oldE s r.ag=[]:=by unfold oldE; rw [hsa]
     have hoM:oldM s r.ag=s.ms:=by unfold oldM; rw [hsa]
     refine⟨_,z3f (h.o [9] 12) (.inr (.inl hst)),?_⟩;intro Jn3 hJ3;refine⟨fun hn=>absurd hn (by simp),fun _=>hJ3 _ _ _ _ ?_⟩
     have h:=h.o [9,5,6,0,2,3,4,7,8,10,11] 12;obtain⟨bl,hm,h⟩:=q74.1 h;have hbl:bl.length=s.sts.length:=by have:=congrArg List.length hm; simpa using this
     have e1:s.sts.set r.ag.toNat none=s.sts:=by
      have:s.sts[r.ag.toNat]=none:=by rw [List.getElem?_eq_getElem hlt] at hst; exact Option.some.inj hst
      rw [← this,z79]
     have e2:bl.set r.ag.toNat none=bl:=by
      have h1:=qfw hm r.ag.toNat
      rw [hst,List.getElem?_eq_getElem (show r.ag.toNat < bl.length by omega)] at h1;have:bl[r.ag.toNat]=none:=by
       cases e:bl[r.ag.toNat] with
       | none=>rfl
       | some x=>rw [e] at h1; simp at h1
      rw [← this,z79]
     have hf:=fresh bl none 0 H3 hm (by rw [hoE]; simp);rw [hoE,hoM] at hf;refine hf ?_;rw [show qhy Q bl s.sts r.ag.toNat=strsA Q bl s.sts by unfold qhy; rw [e1,e2]];exact h.sl_nil 66 87
   ·rw [if_neg (by simpa using hf)] at k;have h:=h.o [2,3,4,5,6,7,8,9,10,0,11] 12;have h:SatL H3 (stA Q sb { s with now:=r.nw,rows:=G.1 }::_):=q0f.2 ⟨p,h⟩;refine fin [] none 0 _ p _ (by simp) (fun a' c' H'' h=>k a' c' H'' h) ?_
    exact (h.sl_nil 66 87).o [0,2,3,1] 4
  refine⟨_,h.rd 1 rfl _,_,h.rd 10 rfl _,_,h.rd 10 rfl _,_,h.rd 10 rfl _,?_,?_⟩
  ·have h:=h.o [2,3,0,1,4,5,6,7,8,9,10] 11;refine Ro.Grant_spec ok.rows (agent:=r.ag) (boot:=r.bt) (now:=r.nw) h fun H2 h=>⟨_,_,_,_,_,rfl,?_⟩
   refine h.al fun b4 _ h=>?_
   refine h.st 0 rfl rfl ?_;intro H3 h;exact main2 _ _ (h.o [0,3,4,1,2,5,6,7,8,9,10,11] 12)
  ·refine h.al fun b5 _ h=>⟨h.rd 11 rfl _,h.rd 11 rfl _,h.rd 11 rfl _,h.rd 2 rfl _,?_⟩
   have h:=h.o [3,4,0,1,2,5,6,7,8,9,10,11] 12;refine Ro.Grant_spec ok.rows (agent:=r.ag) (boot:=r.bt) (now:=r.nw) h fun H2 h=>⟨_,_,_,_,_,rfl,?_⟩
   refine h.st 2 rfl rfl ?_;intro H3 h;exact main2 _ _ (h.o [2,3,4,0,1,5,6,7,8,9,10,11] 12)
 refine⟨_,h.rd 0 rfl _,_,h.rd 9 rfl _,?_,?_⟩
 ·have h:=h.o [1,2,0,3,4,5,6,7,8,9] 10;refine Ro.Of_spec ok.rows (agent:=r.ag) h fun H2 h=>⟨_,_,_,_,rfl,?_⟩
  refine h.al fun b6 _ h=>?_
  refine h.st 0 rfl rfl ?_;intro H3 h;exact main _ _ (h.o [0,3,1,2,4,5,6,7,8,9,10] 11)
 ·refine h.al fun b7 _ h=>⟨h.rd 10 rfl _,h.rd 1 rfl _,?_⟩
  have h:=h.o [2,3,0,1,4,5,6,7,8,9,10] 11;refine Ro.Of_spec ok.rows (agent:=r.ag) h fun H2 h=>⟨_,_,_,_,rfl,?_⟩
  refine h.st 2 rfl rfl ?_;intro H3 h;exact main _ _ (h.o [2,3,0,1,4,5,6,7,8,9,10] 11)
end
end Go.Proofs.YtfmkddccnjidmaaGreatDoor
namespace Go.Nm
def ql0 (s:Sta)(r:Rp):Sta:=match s.sts[r.ag.toNat]? with
 | some (some st)=>{ s with now:=r.sm.came,ms:=(s.ms.hold r.ag (qgq st.ck r.sm).1.held).1,sts:=s.sts.set r.ag.toNat (some { st with ck:=(qgq st.ck r.sm).1 }) }
 | _=>s
def z3s (s:Sta)(r:Rp):Sta:=if s.sunk < r.nx then { s with kept:=s.kept.drop (r.nx - s.sunk).toNat,sunk:=r.nx } else s
def q5q (s:Sta)(r:Rp):Sta × List Eff × Int:=
 if r.right=false then (s,[],10) else
 if q2j s r≠0 then (s,[],q2j s r) else
 if r.kind=1 then ({ s with boots:=s.boots+1 },[],0) else
 if r.kind=2 then qc5 s r else
 if r.kind=3 then (ql0 s r,[],0) else
 if r.kind=4 then ((qaz s r).1,(qaz s r).2,0) else
 if r.kind=5 then (z07 s r,[],0) else
 if r.kind=6 then ((qky s r.nw).1,(qky s r.nw).2,0) else
 (z3s s r,[],0)
theorem q4f {s:Sta}{r:Rp}(ok:q2z s)(hL:RLim r)(h:q2j s r=0)(hk:r.kind=3∨r.kind=4∨r.kind=5):∃st,s.sts[r.ag.toNat]?=some (some st):=by
 unfold q2j at h;rw [if_neg (by omega),if_neg (by omega)] at h;unfold qkz at h;have hep:=hL.ep.1 hk
 split at h
 ·simp at h
 ·rename_i hn;have his:isE s r.ag r.ep=true:=by
   cases e:isE s r.ag r.ep
   ·exact absurd ⟨by omega,e⟩ hn
   ·rfl
  unfold isE at his;rw [z56] at his;exact (ok.str (z4z his.1)).2
end Go.Nm
namespace Go.Proofs.YtfmkddccnjidmaaGreatDoor
open Go.Nm
section
variable {F L:List Assn} {H:Heap} {K KP:Value→Heap→Prop} {Q Q':Assn}
set_option maxHeartbeats 4000000 in
theorem z08 {sb:Nat}{s:Sta}{r:Rp}{a:Option Addr}{c:Nat}{evs:List Ev}(ok:q2z s)(hs:s.sunk≤4611686018427387903)(hkl:s.kept.length≤100000000000)(hr:z3n Q F r a evs)(h:SatL H (Q::stA Q sb s::F))
  (k:∀Q' a' c' H',Sub Q Q'→SatL H' (Q'::slA 66 87 a' (q5q s r).2.1.length c' (flat q54 (q5q s r).2.1)::stA Q' sb (q5q s r).1::F)→K (.tuple #[.slice a' (q5q s r).2.1.length c',I64 (q5q s r).2.2]) H') :
  CF 17 #[PA sb 0,.agg ⟨encR r a c⟩] H K:=by
 have hel:r.evs.length=evs.length:=by rw [hr.eq,z5q]
 refine q1z.call ?_;unfold q1z.code;refine h.al fun b H0 h=>⟨_,_,_,_,_,_,_,_,_,_,_,_,_,_,h.rds 0 rfl rfl,?_⟩
 unfold q5q at k;refine qap hr.eq h ⟨fun H h=>hr.rd H h.tl.tl.tl,fun e he H h=>(hr.labs e he).at h 1 rfl⟩ (by have:=hr.len; omega) fun H1 h=>⟨_,rfl,fun hc=>?_,fun hc=>?_⟩
 ·rw [if_pos (by simpa using hc)] at k;have h:=h.o [1,2] 3;exact k Q none 0 _ (Sub.refl Q) ((h.sl_nil 66 87).o [1,0,2] 3)
 have hR:r.right=true:=by simpa using hc
 have hL:=q3h hR;rw [if_neg (by rw [hR]; simp)] at k;have h:=h.o [2,0,1] 3;refine⟨_,_,_,_,_,_,_,_,_,_,_,_,_,_,h.rds 1 rfl rfl,?_⟩;refine qv4 ok hs hkl hR h fun H2 h=>⟨_,rfl,fun hc=>?_,fun hc=>?_⟩
 ·rw [if_pos (by simpa using hc)] at k;have h:=h.o [0,2] 3;exact k Q none 0 _ (Sub.refl Q) ((h.sl_nil 66 87).o [2,0,1] 3)
 have hrf:q2j s r=0:=by simpa using hc
 rw [if_neg (by rw [hrf]; simp)] at k;refine⟨_,h.rd 1 rfl _,?_⟩;intro Jn hJ;have fin:∀(s':Sta) H',(∀Q' a' c' H',Sub Q Q'→SatL H' (Q'::slA 66 87 a' 0 c' []::stA Q' sb s'::F)→K (.tuple #[.slice a' 0 c',I64 0]) H')→SatL H' (stA Q sb s'::Q::F)→Jn H':=by
  intro s' H' kk h;refine hJ _ ?_;unfold q1z.r1;exact kk Q none 0 _ (Sub.refl Q) ((h.sl_nil 66 87).o [2,0,1] 3)
 refine⟨fun hk=>?_,fun hk=>?_⟩
 ·have hk:=z4z hk;rw [if_pos hk] at k;obtain⟨p,h⟩:=q0f.1 h;refine⟨_,h.rd 0 rfl _,?_⟩;refine h.st 0 rfl rfl ?_;intro H3 h;have hb:=ok.boots;rw [w64 (x:=s.boots+1) (by omega) (by omega)] at h;have h:=h.o [0,1,2,3,4,5,6,7,8,10] 11;have h:SatL H3 (stA Q sb { s with boots:=s.boots+1 }::_):=q0f.2 ⟨p,h⟩;exact fin _ _ k h
 have hk1:=z54 hk;rw [if_neg hk1] at k;refine⟨fun hk=>?_,fun hk=>?_⟩
 ·have hk2:=z4z hk;rw [if_pos hk2] at k;refine⟨_,_,_,_,_,_,_,_,_,_,_,_,_,_,h.rds 1 rfl rfl,?_⟩;refine Grant_spec ok hR hk2 h fun a' c' H3 h=>⟨_,_,_,_,rfl,?_⟩
  exact k Q a' c' H3 (Sub.refl Q) (h.o [3,0,1] 4)
 have hk2:=z54 hk;rw [if_neg hk2] at k;intro Jn1 hJ1;have fin1:∀(s':Sta) H',(∀Q' a' c' H',Sub Q Q'→SatL H' (Q'::slA 66 87 a' 0 c' []::stA Q' sb s'::F)→K (.tuple #[.slice a' 0 c',I64 0]) H')→SatL H' (stA Q sb s'::Q::F)→Jn1 H':=by
  intro s' H' kk h;refine hJ1 _ ?_;unfold q1z.r2;exact fin s' H' kk h
 refine⟨fun hk=>?_,fun hk=>?_⟩
 ·have hk3:=z4z hk;rw [if_pos hk3] at k;obtain⟨st,hst⟩:=q4f ok hL hrf (.inl hk3);unfold ql0 at k;rw [hst] at k;dsimp only at k;have hsok:=ok.sts st (z5w hst);have hag':((r.ag.toNat:Nat):Int)=r.ag:=by have:=hL.ag; omega
  obtain⟨p,h⟩:=q0f.1 h;have h:=h.o [7,0,1,2,3,4,5,6,8,9,10] 11;obtain⟨stb,bl,hole,h⟩:=q96 h hst;have h:=h.o [1,0,2,3,4,5,6,7,8,9,10,11,12] 13;obtain⟨cb,hb,h⟩:=q1n.1 h;have hptr:=qc3 hole h 3 rfl;rw [hag'] at hptr;refine⟨_,h.rd 5 rfl _,_,h.rd 13 rfl _,_,hptr,q02 ⟨_,h.rd 0 rfl 0,_,_,_,_,h.rds 13 rfl rfl,?_⟩⟩;have h:=h.o [1,0,2,3,4,5,6,7,8,9,10,11,12,13,14] 15;refine qyt (s:=r.sm) hsok.ck h fun H3 h=>⟨_,rfl,_,h.rd 5 rfl _,_,h.rd 13 rfl _,q02 ⟨_,h.rd 1 rfl 0,_,qbu h,?_⟩⟩
  have h:=h.o [8,9,0,1,2,3,4,5,6,7,10,11,12,13,14] 15;refine Ma.Hold_spec (a:=r.ag) (v:=(qgq st.ck r.sm).1.held) h fun H4 h=>⟨_,rfl,_,h.rd 13 rfl _,?_⟩
  refine h.st 7 rfl rfl ?_;intro H5 h;refine fin1 _ _ k ?_;have h:=h.o [3,2,4,5,6,7,8,9,0,1,10,11,12,14] 15;have h:SatL H5 (strA Q stb { st with ck:=(qgq st.ck r.sm).1 }::_):=q1n.2 ⟨cb,hb,h⟩;have h:=h.o [1,0,2,3,4,5,6,7,8,9,10,11] 12;have h:=qaq hole h;exact q0f.2 ⟨p,h.o [1,2,3,4,5,6,7,0,8,9] 10⟩
 have hk3:=z54 hk;rw [if_neg hk3] at k;refine⟨fun hk=>?_,fun hk=>?_⟩
 ·have hk4:=z4z hk;rw [if_pos hk4] at k;obtain⟨st,hst⟩:=q4f ok hL hrf (.inr (.inl hk4));have hb:=hL.evs hk4;unfold q5w at hb;simp only [z56,z52,z69] at hb;refine⟨_,_,_,_,_,_,_,_,_,_,_,_,_,_,h.rds 1 rfl rfl,?_⟩;have h:=h.o [2,0,1] 3;refine qv3 (evs:=evs) ok hL.ag.1 hst ⟨hr.eq,fun H h=>hr.rd H h.tl,hr.labs,hr.len,hr.vals⟩ (fun e he=>hb.2.2 e he) (by omega) h fun Q2 a' c' H3 hs2 h=>⟨_,_,_,rfl,?_⟩
  exact k Q2 a' c' H3 hs2 (h.o [0,1,2] 4)
 have hk4:=z54 hk;rw [if_neg hk4] at k;intro Jn2 hJ2;have fin2:∀(s':Sta) H',(∀Q' a' c' H',Sub Q Q'→SatL H' (Q'::slA 66 87 a' 0 c' []::stA Q' sb s'::F)→K (.tuple #[.slice a' 0 c',I64 0]) H')→SatL H' (stA Q sb s'::Q::F)→Jn2 H':=by
  intro s' H' kk h;refine hJ2 _ ?_;unfold q1z.r3;exact fin1 s' H' kk h
 refine⟨fun hk=>?_,fun hk=>?_⟩
 ·have hk5:=z4z hk;rw [if_pos hk5] at k;obtain⟨st,hst⟩:=q4f ok hL hrf (.inr (.inr hk5));refine⟨_,_,_,_,_,_,_,_,_,_,_,_,_,_,h.rds 1 rfl rfl,?_⟩;refine z3p ok hL.ag.1 hst h fun H3 h=>⟨rfl,fin2 _ _ k (h.o [0,2] 3)⟩
 have hk5:=z54 hk;rw [if_neg hk5] at k;refine⟨fun hk=>?_,fun hk=>?_⟩
 ·have hk6:=z4z hk;rw [if_pos hk6] at k;refine⟨_,h.rd 1 rfl _,?_⟩;refine Tick_spec ok hs hkl h fun a' c' H3 h=>⟨_,_,_,rfl,?_⟩
  exact k Q a' c' H3 (Sub.refl Q) (h.o [3,0,1] 4)
 have hk6:=z54 hk;rw [if_neg hk6] at k;intro Jn3 hJ3;have fin3:∀(s':Sta) H',(∀Q' a' c' H',Sub Q Q'→SatL H' (Q'::slA 66 87 a' 0 c' []::stA Q' sb s'::F)→K (.tuple #[.slice a' 0 c',I64 0]) H')→SatL H' (stA Q sb s'::Q::F)→Jn3 H':=by
  intro s' H' kk h;refine hJ3 _ ?_;unfold q1z.r4;exact fin2 s' H' kk h
 have hk7:r.kind=7:=by have:=hL.kind; omega
 refine⟨fun _=>?_,fun hk=>absurd hk7 (z54 hk)⟩
 obtain⟨p,h⟩:=q0f.1 h;refine⟨_,h.rd 9 rfl _,_,h.rd 0 rfl _,?_⟩;intro Jn4 hJ4;have fin4:∀(s':Sta) H',(∀Q' a' c' H',Sub Q Q'→SatL H' (Q'::slA 66 87 a' 0 c' []::stA Q' sb s'::F)→K (.tuple #[.slice a' 0 c',I64 0]) H')→SatL H' (stA Q sb s'::Q::F)→Jn4 H':=by
  intro s' H' kk h;refine hJ4 _ ?_;unfold q1z.r5;exact fin3 s' H' kk h
 unfold z3s at k;refine⟨fun hk=>?_,fun hk=>?_⟩
 ·have hk:=z4z hk;rw [if_pos hk] at k;have hnx:r.nx≤s.next:=by
   unfold q2j at hrf;rw [if_neg hk1,if_pos hk7] at hrf
   split at hrf
   ·simp at hrf
   ·omega
  have hnx:r.nx≤s.sunk+(s.kept.length:Int):=hnx;have hs0:=ok.sunk;have hnx0:=hL.nx;have hw:i64.wrap (r.nx - s.sunk)=((r.nx - s.sunk).toNat:Nat):=by rw [w64 (by omega) (by omega)]; omega
  refine⟨_,_,_,h.rd 0 rfl _,_,h.rd 9 rfl _,_,h.rd 0 rfl _,?_⟩;rw [hw];have h:=h.o [8,0,1,2,3,4,5,6,7,9,10] 11;refine qrk (j:=(r.nx - s.sunk).toNat) (by omega) h fun H3 h=>⟨_,_,_,rfl,?_⟩
  refine h.st 1 rfl rfl ?_;intro H4 h;refine⟨_,h.rd 9 rfl _,?_⟩;refine h.st 1 rfl rfl ?_;intro H5 h;refine fin4 _ _ k ?_;refine q0f.2 ⟨p,?_⟩;have e:(s.kept.drop (r.nx - s.sunk).toNat).length=s.kept.length - (r.nx - s.sunk).toNat:=z5u ..;simp only [q46,e];exact h.o [1,2,3,4,5,6,7,8,0,10] 11
 ·rw [if_neg (z54 hk)] at k;refine fin4 _ _ k (q0f.2 ⟨p,h.o [0,1,2,3,4,5,6,7,8,10] 11⟩)
end
end Go.Proofs.YtfmkddccnjidmaaGreatDoor
namespace Go.Nm
section
variable {α:Type}
theorem qs0 {next most B:Int}:∀{l:List α} {n:Int} {s:RowL α × Int},(∀p∈s.1,p.1 < B)→n+l.length≤B→∀p∈(q34 next most n l s).1,p.1 < B
 | [],n,s,h,_=>h
 | v::vs,n,s,h,hn=>by
  rw [z59] at hn;refine qs0 (l:=vs) (fun p hp=>?_) (by omega)
  unfold q2e at hp
  split at hp
  ·exact h p hp
  ·split at hp
   ·exact h p hp
   ·rcases qjo.1 hp with rfl|hp
    ·show n < B; omega
    ·exact h p hp
theorem pop_le {B:Int}:∀{l:RowL α} {next:Int},next≤B→(∀p∈l,p.1 < B)→(pop next l).2.1≤B
 | [],next,h,_=>h
 | (n,v)::r,next,h,hl=>by
  unfold pop
  split
  ·rename_i e;have:=hl _ (z5i ..);exact pop_le (l:=r) (next:=next+1) (by dsimp only at this; omega) fun p hp=>hl p (z5j _ hp)
  ·exact h
theorem qx4 {s:HS α}{first B:Int}{items:List α}(h1:s.next≤B)(h2:∀p∈s.rows,p.1 < B)(h3:first+items.length≤B) :
  (s.offer first items).1.next≤B∧∀p∈(s.offer first items).1.rows,p.1 < B:=by
 unfold HS.offer
 split
 ·exact⟨h1,h2⟩
 ·have h:=qs0 (next:=s.next) (most:=s.most) (l:=items) (n:=first) (s:=(s.rows,0)) h2 h3;exact⟨pop_le h1 h,fun p hp=>h p (qum.2 p hp)⟩
end
theorem qs1 (ms:MS)(a t:Int):(ms.raise a t).1.lag=ms.lag:=by
 unfold MS.raise
 split
 ·rfl
 ·split <;> rfl
theorem hold_lag (ms:MS)(a:Int)(b:Bool):(ms.hold a b).1.lag=ms.lag:=by
 unfold MS.hold; split <;> rfl
theorem z3t (ms:MS)(a:Int):(ms.leave a).1.lag=ms.lag:=by
 unfold MS.leave; split <;> rfl
theorem join_lag (ms:MS)(a t:Int):(ms.join a t).1.lag=ms.lag:=by
 unfold MS.join
 split
 ·rfl
 ·split <;> rfl
theorem tick_lag (ms:MS)(t:Int):(ms.tick t).1.lag=ms.lag:=by
 unfold MS.tick; split <;> rfl
theorem qs2 {c:Cfg}{now a:Int}{st:Str}{ms:MS}{cm:CM}{e:Pv}(h:MOk ms):MOk (q2g c now a st ms cm e).ms∧(q2g c now a st ms cm e).ms.lag=ms.lag:=by
 have h1:=h.raise a (q21 st.ck (flOf ms a) now e.stamp).1.lo;have h2:=qs1 ms a (q21 st.ck (flOf ms a) now e.stamp).1.lo;unfold q2g
 split
 ·exact⟨h,rfl⟩
 split
 ·exact⟨h,rfl⟩
 split
 ·exact⟨h1,h2⟩
 split
 ·exact⟨h1,h2⟩
 split <;> exact⟨h1,h2⟩
theorem qs3 {c:Cfg}{now a ep first:Int}{evs:List Pv}{x:JS}(h:MOk x.ms)(hl:-1≤x.st.last∧x.st.last≤4611686018427387903)(he:∀e∈evs,q9a e=true):∀n,n≤evs.length→
  MOk (q2s c now a ep first evs x n).1.ms∧(q2s c now a ep first evs x n).1.ms.lag=x.ms.lag∧-1≤(q2s c now a ep first evs x n).1.st.last∧(q2s c now a ep first evs x n).1.st.last≤4611686018427387903
 | 0,_=>⟨h,rfl,hl⟩
 | n+1,hn=>by
  have ih:=qs3 (c:=c) (now:=now) (a:=a) (ep:=ep) (first:=first) h hl he n (by omega);have hj:=qrx c now a (q2s c now a ep first evs x n).1.st (q2s c now a ep first evs x n).1.ms (q2s c now a ep first evs x n).1.cm (evs.getD n Pv.z);have hm:=qs2 (c:=c) (now:=now) (a:=a) (st:=(q2s c now a ep first evs x n).1.st) (cm:=(q2s c now a ep first evs x n).1.cm) (e:=evs.getD n Pv.z) ih.1;have hev:q9a (evs.getD n Pv.z)=true:=by rw [qal _ (by omega)]; exact he _ (z5e _)
  unfold q9a at hev;simp only [z56,z52] at hev;refine⟨hm.1,hm.2.trans ih.2.1,?_⟩;show -1≤(q2g c now a _ _ _ _).st.last∧(q2g c now a _ _ _ _).st.last≤_
  rcases hj.2.2 with e|e
  ·rw [e]; exact ih.2.2
  ·rw [e]; omega
theorem q2z.setStr {s:Sta}(ok:q2z s){k:Nat}{st st':Str}{now:Int}{ms:MS}{cm:CM}(hk:s.sts[k]?=some (some st))(h1:isT now)(h2:MOk ms)(h3:ms.lag=s.ms.lag)(h4:ShOk s.cfg.cells cm)(h5:qkv s.cfg st') :
  q2z { s with now:=now,ms:=ms,cm:=cm,sts:=s.sts.set k (some st') }:=by
 have hlt:k < s.sts.length:=(List.getElem?_eq_some_iff.1 hk).1;refine⟨ok.cfg,h1,ok.boots,ok.sunk,ok.rows,h2,h3.trans ok.lag,h4,?_,fun x hx=>?_,fun j=>?_,ok.kept⟩
 ·show (s.sts.set k _).length=64;rw [List.length_set,ok.len]
 ·rcases z7s hx with hx|hx
  ·exact ok.sts x hx
  ·cases hx; exact h5
 ·rw [← ok.reg j];show (∃x,(s.sts.set k (some st'))[j]?=some (some x))↔_
  by_cases e:j=k
  ·subst e;rw [List.getElem?_set_self hlt];exact⟨fun _=>⟨st,hk⟩,fun _=>⟨st',rfl⟩⟩
  ·rw [List.getElem?_set_ne (by omega)]
theorem q2z.upd {s:Sta}(ok:q2z s){now:Int}{ms:MS}{cm:CM}{kept:List Ot}{sunk boots:Int}(h1:isT now)(h2:MOk ms)(h3:ms.lag=s.ms.lag)(h4:ShOk s.cfg.cells cm)(h5:∀o∈kept,WC o.2)(h6:0≤sunk)(h7:0≤boots∧boots≤1099511627776) :
  q2z { s with now:=now,ms:=ms,cm:=cm,kept:=kept,sunk:=sunk,boots:=boots }:=
 ⟨ok.cfg,h1,h7,h6,ok.rows,h2,h3.trans ok.lag,h4,ok.len,ok.sts,ok.reg,h5⟩
theorem qiq {most:Int}{m:CM}(h:ShOk most m):∀o∈q0h m,WC o.2:=by
 intro o ho;unfold q0h at ho;obtain⟨k,_,rfl⟩:=z5b.1 ho;exact h.cell k
theorem z3u {c:Cfg}(h:qde c):qkv c (qc4 c) where
 ck:=⟨by simp [qc4],fun s hs=>absurd hs (by simp [qc4]),by show (0:Int)≤0∧(0:Int)≤9223372036854775807; decide⟩
 rho:=rfl
 least:=rfl
 hs:=⟨by show (0:Int)≤0; decide,h.hd.1,h.hd.2,⟨by simp [qc4,q4n],fun p hp=>absurd hp (by simp [qc4])⟩⟩
 most:=rfl
 next:=by show (0:Int)≤_; decide
 rows:=fun p hp=>absurd hp (by simp [qc4])
 last:=by show (-1:Int)≤-1∧(-1:Int)≤4611686018427387903; decide
theorem z09 (c:Ck)(s:Smp):(qgq c s).1.rho=c.rho∧(qgq c s).1.least=c.least:=by
 unfold qgq
 split
 ·exact⟨rfl,rfl⟩
 ·dsimp only;generalize qhh _=B
  cases B <;> exact⟨rfl,rfl⟩
theorem batch_ok {s:Sta}{r:Rp}(ok:q2z s)(hL:RLim r)(hk:r.kind=4){st:Str}(hst:s.sts[r.ag.toNat]?=some (some st))(hv:∀e∈r.evs,wf64 e.value):q2z (qaz s r).1:=by
 have hsok:=ok.sts st (z5w hst);have hb:=hL.evs hk;unfold q5w at hb;simp only [z56,z52,z69] at hb;obtain⟨⟨hb1,hb2⟩,⟨⟨hb3,hb4⟩,hb5⟩,hb6⟩:=hb;have ho:=HS.offer_ok hsok.hs r.nx r.evs;have hm:=qbz (s:=st.hs) (first:=r.nx) (items:=r.evs);have hlt:=qx4 (s:=st.hs) (first:=r.nx) (B:=1099511627776) (items:=r.evs) hsok.next (fun p hp=>(hsok.rows p hp).1) (by omega)
 unfold qaz;rw [hst];dsimp only;unfold qkw;generalize st.hs.offer r.nx r.evs=O at *;have good:∀e∈O.2.1,q9a e=true∧wf64 e.value:=by
  intro e he
  rcases hm.1 e he with h|⟨q,h,rfl⟩
  ·exact⟨hb6 e h,hv e h⟩
  ·exact (hsok.rows q h).2
 have hj:=qkx (c:=s.cfg) (now:=r.nw) (a:=r.ag) (ep:=r.ep) (first:=st.hs.next) (evs:=O.2.1) (x:=⟨{ st with hs:=O.1 },s.ms,s.cm⟩) ok.sh (fun e he=>(good e he).2) O.2.1.length (z5c _)
 have hj2:=qs3 (c:=s.cfg) (now:=r.nw) (a:=r.ag) (ep:=r.ep) (first:=st.hs.next) (evs:=O.2.1) (x:=⟨{ st with hs:=O.1 },s.ms,s.cm⟩) ok.ms hsok.last (fun e he=>(good e he).1) O.2.1.length (z5c _)
 generalize q2s s.cfg r.nw r.ag r.ep st.hs.next O.2.1 ⟨{ st with hs:=O.1 },s.ms,s.cm⟩ O.2.1.length=G at *;refine ok.setStr hst hL.nw hj2.1 hj2.2.1 hj.1 ⟨by rw [hj.2.1]; exact hsok.ck,by rw [hj.2.1]; exact hsok.rho,by rw [hj.2.1]; exact hsok.least,by rw [hj.2.2.1]; exact ho.1,by rw [hj.2.2.1]; exact ho.2.2.2.trans hsok.most,by rw [hj.2.2.1]; exact hlt.1,?_,hj2.2.2⟩;rw [hj.2.2.1];intro p hp;refine⟨hlt.2 p hp,?_⟩
 rcases hm.2 p hp with h|h
 ·exact⟨hb6 _ h,hv _ h⟩
 ·exact (hsok.rows p h).2
theorem ql1 {most:Int}{rows:List En}(hr:q3u rows)(a b n:Int) :
  ((q1w most rows a b n).2.2.1=true∧(q1w most rows a b n).1=rows.set a.toNat (q1w most rows a b n).2.1∧0 < (q1w most rows a b n).2.1.epoch∧(q1w most rows a b n).2.2.2=0∧(q1w most rows a b n).2.1.epoch=(rowE rows a).epoch+1)∨
  ((q1w most rows a b n).2.2.1=false∧(q1w most rows a b n).1=rows∧((q1w most rows a b n).2.2.2=0→(q1w most rows a b n).2.1=rowE rows a∧0 < (rowE rows a).epoch)):=by
 have h0:=(hr.at a).1;unfold q1w
 split
 ·exact .inr ⟨rfl,rfl,fun h=>by simp at h⟩
 dsimp only
 split
 ·rename_i h; exact .inr ⟨rfl,rfl,fun _=>⟨rfl,h.1⟩⟩
 split
 ·exact .inr ⟨rfl,rfl,fun h=>by simp at h⟩
 split
 ·exact .inr ⟨rfl,rfl,fun h=>by simp at h⟩
 split
 ·exact .inr ⟨rfl,rfl,fun h=>by simp at h⟩
 ·exact .inl ⟨rfl,rfl,by show 0 < (rowE rows a).epoch+1; omega,rfl,rfl⟩
theorem oldM_ok {s:Sta}(ok:q2z s)(a:Int):MOk (oldM s a)∧(oldM s a).lag=s.ms.lag:=by
 unfold oldM
 split
 ·exact⟨ok.ms.leave a,z3t _ _⟩
 ·exact⟨ok.ms,rfl⟩
theorem z3v {s:Sta}{r:Rp}(ok:q2z s)(hL:RLim r):q2z (qc5 s r).1:=by
 have hg:=ql1 (most:=s.cfg.agents) ok.rows r.ag r.bt r.nw;have hgo:=Go.Nm.grant_ok (most:=s.cfg.agents) ok.rows r.ag r.bt r.nw;have ho:=oldM_ok ok r.ag;unfold qc5
 split
 ·exact ok
 split
 ·rename_i hf
  rcases hg with ⟨-,g2,g3,g4,-⟩|⟨g1,_⟩
  ·have hlt:r.ag.toNat < s.sts.length:=by rw [ok.len]; have:=hL.ag; omega
   have hltr:r.ag.toNat < s.rows.length:=by rw [ok.rows.len]; have:=hL.ag; omega
   refine⟨ok.cfg,hL.nw,ok.boots,ok.sunk,hgo,ho.1.join _ _,(join_lag _ _ _).trans (ho.2.trans ok.lag),ok.sh,?_,fun x hx=>?_,fun j=>?_,ok.kept⟩
   ·show (s.sts.set _ _).length=64;rw [List.length_set,ok.len]
   ·rcases z7s hx with hx|hx
    ·exact ok.sts x hx
    ·cases hx; exact z3u ok.cfg
   ·dsimp only;rw [g2]
    by_cases e:j=r.ag.toNat
    ·subst e;rw [List.getElem?_set_self hlt,List.getElem?_set_self hltr];exact⟨fun _=>⟨_,rfl,g3⟩,fun _=>⟨_,rfl⟩⟩
    ·rw [List.getElem?_set_ne (by omega),List.getElem?_set_ne (by omega)];exact ok.reg j
  ·rw [g1] at hf; cases hf
 ·rename_i hf
  rcases hg with ⟨g1,_⟩|⟨-,g2,_⟩
  ·exact absurd g1 hf
  ·dsimp only;rw [g2];exact ok.upd (kept:=s.kept) (sunk:=s.sunk) (boots:=s.boots) hL.nw ok.ms rfl ok.sh ok.kept ok.sunk ok.boots
theorem qna {m:CM}{b:Int}{o:Ot}(h:o∈q8f m b):o∈q0h m:=(List.takeWhile_sublist _).subset h
theorem apply_ok {s:Sta}{r:Rp}(ok:q2z s)(hv:∀e∈r.evs,wf64 e.value):q2z (q5q s r).1:=by
 unfold q5q
 split
 ·exact ok
 rename_i hR;have hR:r.right=true:=by simpa using hR
 have hL:=q3h hR
 split
 ·exact ok
 rename_i hrf;have hrf:q2j s r=0:=by simpa using hrf
 split
 ·rename_i hk;have hb:s.boots < 1099511627776:=by
   unfold q2j at hrf;rw [if_pos hk] at hrf
   split at hrf
   ·simp at hrf
   ·omega
  exact ok.upd (now:=s.now) (kept:=s.kept) (sunk:=s.sunk) (boots:=s.boots+1) ok.now ok.ms rfl ok.sh ok.kept ok.sunk (by have:=ok.boots; omega)
 split
 ·exact z3v ok hL
 split
 ·rename_i hk;obtain⟨st,hst⟩:=q4f ok hL hrf (.inl hk);have hsok:=ok.sts st (z5w hst);unfold ql0;rw [hst];have hc:=z09 st.ck r.sm;have hsm:=hL.sm;unfold Smp.ok at hsm;exact ok.setStr hst hsm.2.2.2.1 (ok.ms.hold _ _) (hold_lag _ _ _) ok.sh ⟨ckAdd_ok hsok.ck r.sm,hc.1.trans hsok.rho,hc.2.trans hsok.least,hsok.hs,hsok.most,hsok.next,hsok.rows,hsok.last⟩
 split
 ·rename_i hk;obtain⟨st,hst⟩:=q4f ok hL hrf (.inr (.inl hk));exact batch_ok ok hL hk hst hv
 split
 ·rename_i hk;obtain⟨st,hst⟩:=q4f ok hL hrf (.inr (.inr hk));have hsok:=ok.sts st (z5w hst);have same:=ok.upd (now:=r.nw) (kept:=s.kept) (sunk:=s.sunk) (boots:=s.boots) hL.nw ok.ms rfl ok.sh ok.kept ok.sunk ok.boots;unfold z07;rw [hst];dsimp only
  split
  ·exact same
  split
  ·exact same
  ·have:=hL.st;exact ok.setStr hst hL.nw (ok.ms.raise _ _) (qs1 _ _ _) ok.sh ⟨hsok.ck,hsok.rho,hsok.least,hsok.hs,hsok.most,hsok.next,hsok.rows,by show -1≤r.st∧r.st≤4611686018427387903; omega⟩
 split
 ·unfold qky;exact ok.upd (sunk:=s.sunk) (boots:=s.boots) hL.nw (ok.ms.tick _) (tick_lag _ _) (z3h ok.sh) (fun o ho=>by
   rcases z6g.1 ho with ho|ho
   ·exact ok.kept o ho
   ·exact qiq ok.sh o (qna ho)) ok.sunk ok.boots
 ·unfold z3s
  split
  ·exact ok.upd (now:=s.now) (boots:=s.boots) ok.now ok.ms rfl ok.sh (fun o ho=>ok.kept o (z7c ho)) hL.nx.1 ok.boots
  ·exact ok
def cfgR (c:Cfg):Bool:=decide c.gd.ok && decide (1≤c.lag∧c.lag≤1099511627776) && decide (q3o c.rho∧0≤c.trust∧c.trust≤100) && decide (1≤c.agents∧c.agents≤64) && decide (1≤c.cells∧c.cells≤1024) && decide (1≤c.hold∧c.hold≤256)
theorem qh2 {c:Cfg}(h:cfgR c=true):qde c:=by
 unfold cfgR at h;simp only [z56,z52] at h;obtain⟨⟨⟨⟨⟨h1,h2⟩,h3⟩,h4⟩,h5⟩,h6⟩:=h;exact⟨h1,h2,h3,h4,h5,h6⟩
def newS (c:Cfg):Sta:=⟨c,0,0,0,List.replicate 64 En.z,MS.new c.lag,[],List.replicate 64 none,[]⟩
theorem q9b {c:Cfg}(h:qde c):q2z (newS c) where
 cfg:=h
 now:=by show isT 0; decide
 boots:=by show (0:Int)≤0∧(0:Int)≤1099511627776; decide
 sunk:=by show (0:Int)≤0; decide
 rows:=qzx
 ms:=MOk.new h.lag.1 h.lag.2
 lag:=rfl
 sh:=⟨h.cl.1,h.cl.2,by simp [newS],fun p hp=>absurd hp (by simp [newS]),fun p hp=>absurd hp (by simp [newS]),fun p hp=>absurd hp (by simp [newS]),by have:=h.cl; simp [newS]; omega⟩
 len:=by simp [newS]
 sts:=fun st hs=>by
  have:=z83 hs
  cases this
 reg:=fun k=>by
  unfold newS;dsimp only;rw [List.getElem?_replicate,List.getElem?_replicate]
  by_cases hk:k < 64
  ·rw [if_pos hk,if_pos hk]
   constructor
   ·rintro⟨st,h⟩; cases h
   ·rintro⟨e,h,h2⟩; cases h; simp [En.z] at h2
  ·rw [if_neg hk,if_neg hk]
   constructor
   ·rintro⟨st,h⟩; cases h
   ·rintro⟨e,h,h2⟩; cases h
 kept:=fun o ho=>absurd ho (by simp [newS])
structure AgR where
 en:En
 fl:Fl
 last:Int
 next:Int
 wait:Int
 smps:Int
def AgR.z:AgR:=⟨En.z,Fl.z,0,0,0,0⟩
abbrev encA (x:AgR):List Value:=[I64 x.en.epoch,I64 x.en.boot,I64 x.en.time,I64 x.fl.t,.bool x.fl.out,.bool x.fl.was,.bool x.fl.held,I64 x.last,I64 x.next,I64 x.wait,I64 x.smps]
def qx5 (s:Sta)(a:Int):AgR × Bool:=if 0 < (rowE s.rows a).epoch then (match q8t s a with
 | some st=>(⟨rowE s.rows a,flOf s.ms a,st.last,st.hs.next,(st.hs.rows.length:Nat),(st.ck.smps.length:Nat)⟩,true)
 | none=>(AgR.z,true)) else (AgR.z,false)
def atS (s:Sta)(a stamp:Int):Gp × Int:=match q8t s a with
 | some st=>q21 st.ck (flOf s.ms a) s.now stamp
 | none=>(Gp.z,19)
end Go.Nm
namespace Go.Proofs.YtfmkddccnjidmaaGreatDoor
open Go.Nm
section
variable {F L:List Assn} {H:Heap} {K KP:Value→Heap→Prop} {Q Q':Assn}
def eN (p:Prop)[Decidable p]:Int:=if p then 0 else 11
theorem qs4 {p:Prop}[Decidable p](h:p):eN p=0:=if_pos h
theorem qs5 {p:Prop}[Decidable p](h:¬p):eN p=11:=if_neg h
theorem emp1 (h:SatL H F):SatL H (emp::F):=by
 unfold SatL at *;simpa [star,qdr] using h
theorem MarkE {lag:Int}(h:SatL H F)(k:∀p H',SatL H' F→K (.tuple #[.pointer p,I64 (eN (1≤lag∧lag≤1099511627776))]) H'):CF 52 #[I64 lag] H K:=by
 refine Ma.New_spec h (fun hn=>?_) fun h1 h2 mb rb H' h=>?_
 ·have:=k none H h; rw [qs5 (by omega)] at this; exact this
 ·have:=k (some ⟨mb,0,none⟩) H' h.tl.tl; rw [qs4 ⟨h1,h2⟩] at this; exact this
theorem ClockE {rho least:Int}(h:SatL H F)(k:∀p H',SatL H' F→K (.tuple #[.pointer p,I64 (eN (q3o rho∧0≤least∧least≤100))]) H'):CF 53 #[I64 rho,I64 least] H K:=by
 refine qml h (fun hn=>?_) fun hp b H' h=>?_
 ·have:=k none H h; rw [qs5 hn] at this; exact this
 ·have:=k (some ⟨b,0,none⟩) H' h.tl; rw [qs4 hp] at this; exact this
theorem RollE {most:Int}(h:SatL H F)(k:∀p H',SatL H' F→K (.tuple #[.pointer p,I64 (eN (1≤most∧most≤64))]) H'):CF 54 #[I64 most] H K:=by
 refine Ro.New_spec h (fun hn=>?_) fun hp rb mb H' h=>?_
 ·have:=k none H h; rw [qs5 (by omega)] at this; exact this
 ·have:=k (some ⟨rb,0,none⟩) H' h.tl.tl; rw [qs4 (by omega)] at this; exact this
theorem ShelfE {most:Int}(h:SatL H F)(k:∀p H',SatL H' F→K (.tuple #[.pointer p,I64 (eN (1≤most∧most≤1024))]) H'):CF 55 #[I64 most] H K:=by
 refine qms h (fun hn=>?_) fun rb mb H' ok h=>?_
 ·have:=k none H h; rw [qs5 (by omega)] at this; exact this
 ·have:=k (some ⟨rb,0,none⟩) H' h.tl.tl; rw [qs4 ⟨ok.m1,ok.m2⟩] at this; exact this
theorem HoldE {most:Int}(h:SatL H F)(k:∀p H',SatL H' F→K (.tuple #[.pointer p,I64 (eN (1≤most∧most≤256))]) H'):CF 56 #[I64 0,I64 most] H K:=by
 refine qkj (Q:=emp) h (fun hn=>?_) fun hb H' hp h=>?_
 ·have:=k none H h; rw [qs5 (by omega)] at this; exact this
 ·have:=k (some ⟨hb,0,none⟩) H' h.tl; rw [qs4 (by omega)] at this; exact this
theorem eq138 {a b c d e f:Int}:q7d Tryz.prog .eql 138 (.agg #[I64 a,I64 b,I64 c,I64 d,I64 e,I64 f]) (.agg #[I64 0,I64 0,I64 0,I64 0,I64 0,I64 0])
  (decide (a=0) && decide (b=0) && decide (c=0) && decide (d=0) && decide (e=0) && decide (f=0)):=by
 have h:=(qjw (P:=Tryz.prog) (t:=138) (xs:=[I64 a,I64 b,I64 c,I64 d,I64 e,I64 f]) (ys:=[I64 0,I64 0,I64 0,I64 0,I64 0,I64 0])
  (r:=(a == 0 && (b == 0 && (c == 0 && (d == 0 && (e == 0 && (f == 0 && true))))))) (by kernel_rfl)).1
 have e:(a == 0 && (b == 0 && (c == 0 && (d == 0 && (e == 0 && (f == 0 && true))))))=(decide (a=0) && decide (b=0) && decide (c=0) && decide (d=0) && decide (e=0) && decide (f=0)):=by
  rw [z65];simp only [z56,beq_iff_eq,z52,Bool.and_true]
  constructor
  ·rintro⟨h1,h2,h3,h4,h5,h6⟩; exact⟨⟨⟨⟨⟨h1,h2⟩,h3⟩,h4⟩,h5⟩,h6⟩
  ·rintro⟨⟨⟨⟨⟨h1,h2⟩,h3⟩,h4⟩,h5⟩,h6⟩; exact⟨h1,h2,h3,h4,h5,h6⟩
 rw [e] at h;exact h
theorem eN0 (p:Prop)[Decidable p]:decide (eN p=0)=decide p:=by
 unfold eN
 by_cases h:p
 ·simp [h]
 ·simp [h]
theorem q5r {c:Cfg}(h:SatL H F)(k:∀H',SatL H' F→K (.bool (cfgR c)) H'):CF 13 #[.agg ⟨qrq c⟩] H K:=by
 refine q4b.call ?_;unfold q4b.code;refine h.al fun b _ h=>⟨_,h.rd 0 rfl _,_,h.rd 0 rfl _,_,h.rd 0 rfl _,?_⟩
 refine qr3 (g:=c.gd) h fun H2 h=>⟨_,_,_,_,rfl,?_⟩
 refine h.al fun b1 _ h=>?_
 refine h.st 0 rfl rfl ?_;intro H3 h;refine⟨_,h.rd 1 rfl _,MarkE h fun p1 H4 h=>⟨_,_,rfl,_,h.rd 1 rfl _,_,h.rd 1 rfl _,ClockE h fun p2 H5 h=>⟨_,_,rfl,_,h.rd 1 rfl _,RollE h fun p3 H6 h=>⟨_,_,rfl,_,h.rd 1 rfl _,ShelfE h fun p4 H7 h=>⟨_,_,rfl,_,h.rd 1 rfl _,HoldE h fun p5 H8 h=>⟨_,_,rfl,_,eq138,?_⟩⟩⟩⟩⟩⟩
 have e:cfgR c=(decide ((if c.gd.ok then (0:Int) else 11)=0) && decide (eN (1≤c.lag∧c.lag≤1099511627776)=0) && decide (eN (q3o c.rho∧0≤c.trust∧c.trust≤100)=0) && decide (eN (1≤c.agents∧c.agents≤64)=0) && decide (eN (1≤c.cells∧c.cells≤1024)=0) && decide (eN (1≤c.hold∧c.hold≤256)=0)):=by
  have h1:=eN0 c.gd.ok;unfold eN at h1;rw [h1,eN0,eN0,eN0,eN0,eN0]; rfl
 rw [← e];exact k _ h.tl.tl
theorem qnb {c:Cfg}(h:SatL H F)(k1:cfgR c=false→∀H',SatL H' F→K (.tuple #[.pointer none,I64 11]) H')(k2:cfgR c=true→∀sb H',SatL H' (stA Q sb (newS c)::F)→K (.tuple #[PA sb 0,I64 0]) H') :
  CF 16 #[.agg ⟨qrq c⟩] H K:=by
 refine qij.call ?_;unfold qij.code;refine h.al fun b _ h=>⟨_,_,_,_,_,_,_,_,_,h.rds 0 rfl rfl,?_⟩
 refine q5r (c:=c) h fun H1 h=>⟨_,rfl,fun hc=>?_,fun hc=>?_⟩
 ·exact k1 (by simpa using hc) _ h.tl
 have hR:cfgR c=true:=by simpa using hc
 have ok:=qh2 hR;refine⟨_,_,_,_,_,_,_,_,_,h.rds 0 rfl rfl,?_⟩;refine h.alm I64 ptV fun tm _ h=>?_
 refine h.al fun sb _ h=>⟨_,h.rd 2 rfl _,_,h.rd 2 rfl _,_,h.rd 2 rfl _,?_⟩
 refine qr3 (g:=c.gd) h fun H2 h=>⟨_,_,_,_,rfl,?_⟩
 rw [if_pos ok.gd];refine h.st 0 rfl rfl ?_;intro H3 h;refine⟨_,h.rd 2 rfl _,Ro.New_spec h (fun hn=>absurd ok.ag (by omega)) fun _ rb rm H4 h=>⟨_,_,rfl,?_⟩⟩
 refine h.st 2 rfl rfl ?_;intro H5 h;refine⟨_,h.rd 4 rfl _,Ma.New_spec h (fun hn=>absurd ok.lag (by omega)) fun _ _ mb mm H6 h=>⟨_,_,rfl,?_⟩⟩
 refine h.st 4 rfl rfl ?_;intro H7 h;refine⟨_,h.rd 6 rfl _,qms h (fun hn=>absurd ok.cl (by omega)) fun hb hm H8 _ h=>⟨_,_,rfl,?_⟩⟩
 refine h.st 6 rfl rfl ?_;intro H9 h;refine k2 hR sb _ (q0f.2 ⟨⟨rb,rm,mb,mm,hb,hm,tm,none,0⟩,?_⟩);have h:=(h.sl_nil 64 74).o [8,0,7,5,6,3,4,1,2] 10;have h2:SatL H9 (strmA Q tm (List.replicate 64 none)::_):=q74.2 ⟨List.replicate 64 none,by simp,by
  rw [qrr];have e:tabP 0 (List.replicate 64 (none:Option Nat))=[]:=by decide
  rw [e];have:=emp1 h;exact this.o [1,0] 2⟩
 exact h2.o [2,3,4,5,6,7,8,0,1] 9
end
open Go.Nm
section
variable {F L:List Assn} {H:Heap} {K KP:Value→Heap→Prop} {Q Q':Assn} {sb:Nat} {s:Sta}
theorem z3w (h:SatL H (stA Q sb s::F)):q1o Tryz.prog 24 #[PA sb 0] H (I64 s.now):=by
 obtain⟨p,h⟩:=q0f.1 h;exact z1z.call ⟨_,h.rd 0 rfl _,rfl,rfl⟩
theorem ql2 (h:SatL H (stA Q sb s::F)):q1o Tryz.prog 35 #[PA sb 0] H (I64 s.boots):=by
 obtain⟨p,h⟩:=q0f.1 h;exact qor.call ⟨_,h.rd 0 rfl _,rfl,rfl⟩
theorem z0a (h:SatL H (stA Q sb s::F)):q1o Tryz.prog 28 #[PA sb 0] H (I64 s.sunk):=by
 obtain⟨p,h⟩:=q0f.1 h;exact qtv.call ⟨_,h.rd 0 rfl _,rfl,rfl⟩
theorem qv5 (h:SatL H (stA Q sb s::F)):q1o Tryz.prog 23 #[PA sb 0] H (I64 s.ms.value):=by
 obtain⟨p,h⟩:=q0f.1 h;exact qos.call ⟨_,h.rd 0 rfl _,_,Ma.Value_spec h 3 rfl,rfl,rfl⟩
theorem qnc (hl:s.kept.length≤1000000)(h:SatL H (stA Q sb s::F))
  (k:∀a c H',SatL H' (slA 64 74 a s.kept.length c (flat encO s.kept)::stA Q sb s::F)→K (.slice a s.kept.length c) H'):CF 27 #[PA sb 0] H K:=by
 obtain⟨p,h⟩:=q0f.1 h;refine qtw.call ⟨_,_,_,h.rd 0 rfl _,?_⟩;refine qzr h (fun H h=>h.sl_rd 8 rfl) hl fun a' c' H' h=>⟨_,_,_,rfl,k _ _ _ ?_⟩
 have h:=h.o [1,2,3,4,5,6,7,8,9,0] 10;have h:=q0f.2 ⟨p,h⟩;exact h.o [1,0] 2
theorem qpc {k:Nat}{st:Str}(hst:s.sts[k]?=some (some st)):s.sts.set k (some st)=s.sts:=by
 have hlt:k < s.sts.length:=(List.getElem?_eq_some_iff.1 hst).1;have:s.sts[k]=some st:=by rw [List.getElem?_eq_getElem hlt] at hst; exact Option.some.inj hst
 rw [← this,z79]
theorem z0b {a:Int}(hs:s.sts.length=64)(h:q8t s a=none):a < 0∨s.sts[a.toNat]?=some none∨s.sts[a.toNat]?=none:=by
 unfold q8t at h
 split at h
 ·left; assumption
 ·cases e:s.sts[a.toNat]? with
  | none=>exact .inr (.inr rfl)
  | some x=>
   rw [e] at h
   cases x with
   | none=>exact .inr (.inl rfl)
   | some y=>simp at h
theorem qs6 {a:Int}{st:Str}(h:q8t s a=some st):0≤a∧s.sts[a.toNat]?=some (some st):=by
 unfold q8t at h
 split at h
 ·cases h
 ·refine⟨by omega,?_⟩
  cases e:s.sts[a.toNat]? with
  | none=>rw [e] at h; simp at h
  | some x=>
   rw [e] at h
   cases x with
   | none=>simp at h
   | some y=>simp at h; rw [h]
set_option maxHeartbeats 1000000 in
theorem z3x {a stamp:Int}(ok:q2z s)(h:SatL H (stA Q sb s::F))(k:∀H',SatL H' (stA Q sb s::F)→K (.tuple #[aggG (atS s a stamp).1,I64 (atS s a stamp).2]) H') :
  CF 31 #[PA sb 0,I64 a,I64 stamp] H K:=by
 refine St_At.call ?_;unfold St_At.code;refine h.al fun b _ h=>?_
 have h:=h.o [1,0] 2;obtain⟨p,h⟩:=q0f.1 h;unfold atS at k
 cases hs:q8t s a with
 | none=>
  rw [hs] at k;refine⟨_,h.rd 0 rfl _,_,z3f (h.o [7] 9) (z0b ok.len hs),fun _=>?_,fun hc=>absurd hc (by simp)⟩
  refine h.st 9 rfl rfl ?_;intro H2 h;refine⟨_,_,h.rds 9 rfl rfl,?_⟩;have h:=q0f.2 ⟨p,h⟩;exact k _ (h.o [0] 2)
 | some st=>
  rw [hs] at k;obtain⟨ha0,hst⟩:=qs6 hs;have hag':((a.toNat:Nat):Int)=a:=by omega
  have hsok:=ok.sts st (z5w hst);have h:=h.o [7,0,1,2,3,4,5,6,8,9] 10;obtain⟨stb,bl,hole,h⟩:=q96 h hst;have h:=h.o [1,0,2,3,4,5,6,7,8,9,10,11] 12;obtain⟨cb,hb,h⟩:=q1n.1 h;have hptr:=qc3 hole h 3 rfl;rw [hag'] at hptr;refine⟨_,h.rd 5 rfl _,_,hptr,fun hc=>absurd hc (by simp),fun _=>?_⟩
  have h:=h.o [5,8,9,0,1,2,3,4,6,7,10,11,12,13] 14;refine qku (a:=a) (stamp:=stamp) (now:=s.now) hsok.ck.len rfl rfl h fun H3 h=>⟨_,_,_,rfl,?_⟩
  refine h.st 13 rfl rfl ?_;intro H4 h;refine⟨_,_,h.rds 13 rfl rfl,k _ ?_⟩;have h:=h.o [3,4,5,6,7,0,8,9,1,2,10,11,12] 14;have h:=q1n.2 ⟨cb,hb,h⟩;have h:=h.o [1,0,2,3,4,5,6,7,8,9,10] 11;have h:=qaq hole h;rw [qpc hst] at h;exact q0f.2 ⟨p,h.o [1,2,3,4,5,6,7,0,8] 9⟩
theorem qpd {st:Str}(hsok:qkv s.cfg st):∀q∈st.hs.rows,wf64 q.1:=fun q hq=>by
 have h1:=(hsok.rows q hq).1;have h2:=(hsok.hs.rows.inb q hq).1;have h3:=hsok.hs.next0;unfold wf64; omega
theorem ql3 {st:Str}(hsok:qkv s.cfg st):st.hs.rows.length≤256:=by
 have hrl:=hsok.hs.rows.length;have hm2:=hsok.hs.most2;omega
set_option maxHeartbeats 2000000 in
theorem qv6 {a:Int}(ok:q2z s)(h:SatL H (stA Q sb s::F))(k:∀H',SatL H' (stA Q sb s::F)→K (.tuple #[.agg ⟨encA (qx5 s a).1⟩,.bool (qx5 s a).2]) H') :
  CF 26 #[PA sb 0,I64 a] H K:=by
 refine qih.call ?_;unfold qih.code;refine h.al fun b _ h=>?_
 have h:=h.o [1,0] 2;obtain⟨p,h⟩:=q0f.1 h;refine⟨_,h.rd 0 rfl _,?_⟩;have h:=h.o [1,2,0,3,4,5,6,7,8,9] 10;refine Ro.Of_spec ok.rows (agent:=a) h fun H2 h=>⟨_,_,_,_,rfl,?_⟩
 refine h.al fun b1 _ h=>?_
 refine h.st 0 rfl rfl ?_;intro H3 h;unfold qx5 at k;refine⟨fun hc=>?_,fun hc=>?_⟩
 ·rw [if_neg (by simpa using hc)] at k;refine h.st 10 rfl rfl ?_;intro H4 h;refine⟨_,_,_,_,_,_,_,_,_,_,_,h.rds 10 rfl rfl,?_⟩;have h:=h.o [3,1,2,4,5,6,7,8,9] 11;exact k _ (q0f.2 ⟨p,h⟩)
 have he:0 < (rowE s.rows a).epoch:=by simpa using hc
 rw [if_pos he] at k;obtain⟨ha0,st,hst⟩:=ok.str he;rw [qd7 ha0 hst] at k;dsimp only at k;have hag':((a.toNat:Nat):Int)=a:=by omega
 have hsok:=ok.sts st (z5w hst);refine⟨_,h.rd 3 rfl _,?_⟩;have h:=h.o [4,5,0,1,2,3,6,7,8,9,10] 11;refine Ma.Of_spec (a:=a) h fun H4 h=>⟨_,_,_,_,_,rfl,?_⟩
 refine h.al fun b2 _ h=>?_
 refine h.st 0 rfl rfl ?_;intro H5 h;have h:=h.o [9,0,1,2,3,4,5,6,7,8,10,11] 12;obtain⟨stb,bl,hole,h⟩:=q96 h hst;have h:=h.o [1,0,2,3,4,5,6,7,8,9,10,11,12,13] 14;obtain⟨cb,hb,h⟩:=q1n.1 h;have hptr:=qc3 hole h 3 rfl;rw [hag'] at hptr;have hlen:=ql3 hsok;refine⟨_,h.rd 11 rfl _,_,hptr,_,_,_,h.rds 8 rfl rfl,_,_,_,_,h.rds 5 rfl rfl,q02 ⟨_,h.rd 0 rfl _,q02 ⟨_,h.rd 0 rfl _,_,q9q (h.o [2] 3),q02 ⟨_,h.rd 0 rfl _,q02 ⟨_,h.rd 0 rfl 0,?_⟩⟩⟩⟩⟩;have h:=h.o [2,0,1,3,4,5,6,7,8,9,10,11,12,13,14,15] 16;refine qao h hsok.hs.rows.rising (qpd hsok) (by omega) fun wa wc H6 h=>⟨_,_,_,rfl,h.rd 2 rfl 0,h.rd 2 rfl _,h.rds 6 rfl rfl,h.rds 9 rfl rfl,?_⟩
 have h:=h.o [3,0,1,2,4,5,6,7,8,9,10,11,12,13,14,15,16] 17;have hl8:=hsok.ck.len;refine qbv h (by omega) fun sa sc H7 h=>⟨_,_,_,rfl,h.rd 4 rfl _,h.rds 7 rfl rfl,h.rds 10 rfl rfl,?_⟩
 refine h.st 17 rfl rfl ?_;intro H8 h;refine⟨_,_,_,_,_,_,_,_,_,_,_,h.rds 17 rfl rfl,k _ ?_⟩;have h:=h.o [4,1,3,5,6,13,11,12,8,9,14,15,16] 18;have h:=q1n.2 ⟨cb,hb,h⟩;have h:=h.o [1,0,2,3,4,5,6,7,8,9,10] 11;have h:=qaq hole h;rw [qpc hst] at h;exact q0f.2 ⟨p,h.o [1,2,3,4,5,6,7,0,8] 9⟩
end
end Go.Proofs.YtfmkddccnjidmaaGreatDoor
namespace Go.Nm
def flN (bs:List Bool):Nat→Int
 | 0=>0
 | n+1=>flN bs n+if bs.getD n false then (2:Int) ^ n else 0
def cbB (k:Ky)(c:Cl):List Int:=q2y [k.win]++q1i [k.ser,strB (q3q c)]
abbrev smB (x:Smp):List Int:=usB [x.asked,x.got,x.sent,x.came]
abbrev rwB (p:Int × Pv):List Int:=usB [p.1]++evB p.2
def agB1 (a:Int)(e:En)(fl:Fl)(st:Str):List Int:=
 (usB [a,e.epoch,e.boot,e.time,fl.t,flN [fl.out,fl.was,fl.held] 3]++q2y [st.last])++usB [flN [st.ck.held] 1,st.ck.streak,(st.ck.smps.length:Int)]
def agB (a:Int)(e:En)(fl:Fl)(st:Str):List Int:=
 ((agB1 a e fl st++st.ck.smps.flatMap smB)++usB [st.hs.next,(st.hs.rows.length:Int)])++st.hs.rows.flatMap rwB
theorem qx6 (bs:List Bool):∀n,n≤3→0≤flN bs n∧flN bs n < (2:Int) ^ n
 | 0,_=>⟨z5z _,by show (0:Int) < 1; decide⟩
 | n+1,h=>by
  have ih:=qx6 bs n (by omega);have hp:(2:Int) ^ (n+1)=2 ^ n+2 ^ n:=by rw [Int.pow_succ]; omega
  unfold flN;rw [hp]
  split <;> omega
end Go.Nm
namespace Go.Proofs.YtfmkddccnjidmaaGreatDoor
open Go.Nm
section
variable {F L:List Assn} {H:Heap} {K KP:Value→Heap→Prop} {Q Q':Assn} {sb:Nat} {s:Sta}
theorem qnd {b:Nat}{bs:List Bool}(hl:bs.length≤3)(h:SatL H F)(i:Nat)(hA:nth i F=cellsA b (bs.map .bool) 4):q1o Tryz.prog 124 #[.slice (some ⟨b,0,none⟩) bs.length bs.length] H (I64 (flN bs bs.length)):=by
 refine q3m.call ?_;unfold q3m.code;refine⟨fun sum i H'=>H'=H∧∃j:Nat,i=j∧j≤bs.length∧sum=flN bs j,fun _ i _=>bs.length - i.toNat,⟨rfl,0,rfl,by omega,rfl⟩,?_⟩
 rintro sum t H1 ⟨rfl,j,rfl,hj,rfl⟩;unfold q3m.l2;refine⟨fun hc=>?_,fun hc=>?_⟩
 ·have hlt:j < bs.length:=by have:=z4z hc; omega
  have hrd:=(h.ce_rd i hA).at hlt;refine⟨by omega,_,_,hrd.1,_,hrd.2,?_⟩;have hb:=qx6 bs j (by omega);have h8:(2:Int) ^ j≤4:=by
   rcases (by omega:j=0∨j=1∨j=2) with rfl|rfl|rfl <;> decide
  have hs:flN bs (j+1)=flN bs j+if bs[j] then (2:Int) ^ j else 0:=by
   show flN bs j+(if bs.getD j false then _ else _)=_
   rw [qal _ hlt]
  intro Jn hJ;have nxt:Jn (flN bs (j+1)) H1:=by
   refine hJ _ _ ?_;unfold q3m.r1;rw [w64 (x:=(j:Int)+1) (by omega) (by omega)];exact⟨⟨rfl,j+1,by omega,hlt,rfl⟩,by dsimp only; omega⟩
  refine⟨fun hv=>⟨by omega,?_⟩,fun hv=>?_⟩
  ·rw [hs,if_pos hv] at nxt;have e:i64.wrap (1*2 ^ (min (Int.toNat (j:Int)) (i64.bits)))=(2:Int) ^ j:=by
    rcases (by omega:j=0∨j=1∨j=2) with rfl|rfl|rfl <;> decide
   rw [e,w64 (by omega) (by omega)];exact nxt
  ·rw [hs,if_neg (by rw [hv]; simp),Int.add_zero] at nxt;exact nxt
 ·have hge:j=bs.length:=by have:=z54 hc; omega
  subst hge;exact⟨rfl,rfl⟩
theorem z3y {k:Ky}{c:Cl}(wc:WC c)(hs:k.ser.size≤5000):(cbB k c).length≤10100:=by
 have h1:=q4p [k.win];have h2:=q44 (s:=k.ser) (by omega);have h3:=qfo wc;have h4:=q44 (s:=strB (q3q c)) (by rw [q4q]; omega);rw [q4q] at h4;have e:q1i [k.ser,strB (q3q c)]=q38 k.ser++q38 (strB (q3q c)):=by simp [q1i]
 unfold cbB;rw [z51,e,z51];simp only [z59,z5t] at h1;omega
theorem qhn {key:Ky}{c:Cl}(wc:WC c)(hs:key.ser.size≤5000)(h:SatL H F)
  (k:∀a c' H',SatL H' (slA 5 1 a (cbB key c).length c' ((cbB key c).map U8)::F)→K (.slice a (cbB key c).length c') H'):CF 65 #[aggK key,aggC c] H K:=by
 have hcl:=z3y wc hs;have h3:=qfo wc;have hz:=q4q (q3q c);refine q72.call ?_;unfold q72.code;refine h.al fun b _ h=>?_
 refine h.al fun b1 _ h=>⟨_,h.rd 1 rfl _,_,h.rd 1 rfl _,_,_,_,_,_,_,_,_,h.rda 0 rfl,?_⟩
 refine h.al fun b2 _ h=>⟨h.rda 1 rfl,h.rd 2 rfl _,?_⟩
 refine q7w h 0 rfl fun a1 c1 H2 h=>⟨_,_,_,rfl,h.rda 2 rfl,h.rd 3 rfl _,?_⟩
 refine qud wc h fun a2 c2 H3 h=>⟨_,_,_,rfl,h.rd 4 rfl _,?_⟩
 have hsr:=qf7 (c:=c2) (bs:=q3q c) (by
  rcases (q3r (F:=star _) h).2 with ⟨h2,_⟩|⟨b,pre,post,e',fr,h2,_⟩
  ·exact .inl h2
  ·exact .inr ⟨_,_,h2⟩) (h.sl_rd 0 rfl)
 refine⟨_,hsr,?_⟩;refine h.al fun b3 _ h=>?_
 have e:q1i [key.ser,strB (q3q c)]=q38 key.ser++q38 (strB (q3q c)):=by simp [q1i]
 have l1:=q44 (s:=key.ser) (by omega);have l2:=q44 (s:=strB (q3q c)) (by omega);refine qd2 (ts:=[key.ser,strB (q3q c)]) h (fun H h=>h.ce_rd 0 rfl) (fun i=>?_) (by
   intro x hx;simp only [z5l,z7r,or_false] at hx
   rcases hx with rfl|rfl <;> omega) (by simp) fun a3 c3 H5 h=>⟨_,_,_,rfl,?_⟩
 ·have hle:(q1i ([key.ser,strB (q3q c)].take i)).length≤(q1i [key.ser,strB (q3q c)]).length:=by
   have hh:[key.ser,strB (q3q c)]=[key.ser,strB (q3q c)].take i++[key.ser,strB (q3q c)].drop i:=(z7o _ _).symm;rw [show (q1i [key.ser,strB (q3q c)]).length=(q1i ([key.ser,strB (q3q c)].take i++[key.ser,strB (q3q c)].drop i)).length by rw [← hh]];unfold q1i;rw [z7z,z51]; omega
  rw [e,z51] at hle;omega
 ·have hbl:(q2y [key.win]++q1i [key.ser,strB (q3q c)]).length≤10100:=hcl;rw [z51] at hbl;refine appB h (i:=3) rfl rfl rfl (h.sl_rd 0 rfl) (by omega) fun a4 c4 H6 h=>⟨_,_,_,rfl,?_⟩
  exact k _ _ _ (h.o [3] 7)
theorem qx7 (l:List Smp):(l.flatMap smB).length≤40*l.length:=by
 induction l with
 | nil=>simp
 | cons i l ih=>
  have:(smB i).length≤10*4:=q1j [i.asked,i.got,i.sent,i.came];rw [z6a,z51,z59];omega
theorem qx8 (l:RowL Pv):(l.flatMap rwB).length≤1330*l.length:=by
 induction l with
 | nil=>simp
 | cons i l ih=>
  have h1:=q1j [i.1];have h2:=qp7 i.2;rw [z6a,z51,z59,z51];simp only [z59,z5t] at h1;omega
set_option maxHeartbeats 4000000 in
theorem qs7 {a:Int}{e:En}{st:Str}(ok:q2z s)(ha:0≤a)(hst:s.sts[a.toNat]?=some (some st)){p:SAd}{A1 A2 A3 A4 A5:Assn}(h:SatL H (Q::cellsA sb (q46 s p) 115::A1::A2::Ma.markC p.mb p.mm s.ms::Ma.mapF p.mm s.ms.m::A3::A4::strmA Q p.tm s.sts::A5::F))
  (k:∀a' c' H',SatL H' (slA 5 1 a' (agB a e (flOf s.ms a) st).length c' ((agB a e (flOf s.ms a) st).map U8)::Q::cellsA sb (q46 s p) 115::A1::A2::Ma.markC p.mb p.mm s.ms::Ma.mapF p.mm s.ms.m::A3::A4::strmA Q p.tm s.sts::A5::F)→K (.slice a' (agB a e (flOf s.ms a) st).length c') H') :
  CF 62 #[PA sb 0,I64 a,aggE e] H K:=by
 have hag':((a.toNat:Nat):Int)=a:=by omega
 have hsok:=ok.sts st (z5w hst);have hl8:=hsok.ck.len;have hrl:=ql3 hsok;refine q1g.call ?_;unfold q1g.code;refine h.al fun b _ h=>?_
 have h:=h.o [9,2,3,4,5,6,7,8,10,0,1] 11;obtain⟨stb,bl,hole,h⟩:=q96 h hst;have h:=h.o [1,0,2,3,4,5,6,7,8,9,10,11,12] 13;obtain⟨cb,hb,h⟩:=q1n.1 h;have hptr:=qc3 hole h 3 rfl;rw [hag'] at hptr;refine⟨_,h.rd 5 rfl _,_,hptr,_,h.rd 5 rfl _,?_⟩;have h:=h.o [8,9,0,1,2,3,4,5,6,7,10,11,12,13,14] 15;refine Ma.Of_spec (a:=a) h fun H1 h=>⟨_,_,_,_,_,rfl,?_⟩
 refine h.al fun b1 _ h=>?_
 refine h.st 0 rfl rfl ?_;intro H2 h;refine⟨_,h.rd 14 rfl _,_,h.rd 14 rfl _,_,h.rd 14 rfl _,_,h.rd 0 rfl _,_,h.rd 0 rfl _,_,h.rd 0 rfl _,_,h.rd 0 rfl _,?_⟩;refine h.al fun b2 _ h=>⟨h.rd 1 rfl _,h.rd 15 rfl _,h.rd 15 rfl _,h.rd 15 rfl _,_,qnd (bs:=[(flOf s.ms a).out,(flOf s.ms a).was,(flOf s.ms a).held]) (by simp) h 0 rfl,?_⟩
 refine h.al fun b3 _ h=>?_
 refine qc0 (vs:=[a,e.epoch,e.boot,e.time,(flOf s.ms a).t,flN [(flOf s.ms a).out,(flOf s.ms a).was,(flOf s.ms a).held] 3]) h (fun H h=>h.ce_rd 0 rfl) (by simp) fun a1 c1 H3 h=>⟨_,_,_,rfl,q02 ⟨_,h.rd 6 rfl _,?_⟩⟩
 have q1:=q1j [a,e.epoch,e.boot,e.time,(flOf s.ms a).t,flN [(flOf s.ms a).out,(flOf s.ms a).was,(flOf s.ms a).held] 3];have q2:=q4p [st.last];have q3:=q1j [flN [st.ck.held] 1,st.ck.streak,(st.ck.smps.length:Int)];have q4:=q1j [st.hs.next,(st.hs.rows.length:Int)];simp only [z59,z5t] at q1 q2 q3 q4;unfold agB agB1 at k;generalize usB [a,e.epoch,e.boot,e.time,(flOf s.ms a).t,flN [(flOf s.ms a).out,(flOf s.ms a).was,(flOf s.ms a).held] 3]=X1 at *;refine h.al fun b4 _ h=>?_
 refine q7w h 0 rfl fun a2 c2 H4 h=>⟨_,_,_,rfl,?_⟩
 generalize q2y [st.last]=X2 at *;refine appB h (i:=2) rfl rfl rfl (h.sl_rd 0 rfl) (by omega) fun a3 c3 H5 h=>⟨_,_,_,rfl,?_⟩
 have h:=h.o [9,2,6,7,8,10,11,12,13,14,15,16,17,18,20] 21;refine q02 ⟨_,h.rd 4 rfl 0,?_⟩;refine qbv h (by omega) fun sa sc H6 h=>⟨_,_,_,rfl,q02 ⟨_,h.rd 5 rfl 0,_,qbu (h.o [1] 2),q02 ⟨_,h.rd 5 rfl 0,?_⟩⟩⟩
 refine h.al fun b5 _ h=>⟨h.rd 6 rfl 0,_,qnd (bs:=[st.ck.held]) (by simp) h 0 rfl,_,qtz (h.o [2] 3),?_⟩
 refine h.al fun b6 _ h=>?_
 refine qc0 (vs:=[flN [st.ck.held] 1,st.ck.streak,(st.ck.smps.length:Int)]) h (fun H h=>h.ce_rd 0 rfl) (by simp) fun a4 c4 H7 h=>⟨_,_,_,rfl,?_⟩
 generalize usB [flN [st.ck.held] 1,st.ck.streak,(st.ck.smps.length:Int)]=X3 at *;refine appB h (i:=5) rfl rfl rfl (h.sl_rd 0 rfl) (by rw [z51]; omega) fun a5 c5 H8 h=>⟨_,_,_,rfl,?_⟩
 have hO:((X1++X2)++X3).length≤100:=by simp only [z51]; omega
 generalize (X1++X2)++X3=O at *;refine⟨fun a' n' c' i H'=>∃j:Nat,i=j∧j≤st.ck.smps.length∧n'=(O++(st.ck.smps.take j).flatMap smB).length∧
  SatL H' (slA 5 1 a' (O++(st.ck.smps.take j).flatMap smB).length c' ((O++(st.ck.smps.take j).flatMap smB).map U8)::slA 43 4 sa st.ck.smps.length sc (flat q5u st.ck.smps)::ckA cb st.ck::Ma.markC p.mb p.mm s.ms::Ma.mapF p.mm s.ms.m::cellsA stb [PA cb 0,PA hb 0,I64 st.last] 149::hldA Q hb st.hs::mapA I64 ptV p.tm (tabP 0 bl)::qhy Q bl s.sts a.toNat::
   cellsA sb (q46 s p) 115::A1::A2::A3::A4::A5::Q::F),
  fun _ _ _ i _=>st.ck.smps.length - i.toNat,⟨0,rfl,by omega,by simp,?_⟩,?_⟩
 ·rw [show O++(st.ck.smps.take 0).flatMap smB=O by simp];exact h.o [5,3,4,6,7,8,9,10,11,12,13,14,15,16,17,18] 19
 rintro a6 n6 c6 i H9 ⟨j,rfl,hj,rfl,h⟩;unfold q1g.l2;have ljn:=qx7 (st.ck.smps.take j);have ljt:(st.ck.smps.take j).length≤st.ck.smps.length:=by rw [z5n]; omega
 refine⟨fun hlt=>?_,fun hlt=>?_⟩
 ·have hlt:j < st.ck.smps.length:=by have:=z4z hlt; omega
  have hr:=h.sl_rd 1 rfl;refine⟨by omega,_,_,hr.some q2p (by omega) hlt,_,_,_,_,hr.els q2p hlt,?_⟩;refine h.al fun b8 _ h=>?_
  refine h.st 0 rfl rfl ?_;intro H10 h;refine⟨_,h.rd 0 rfl _,_,h.rd 0 rfl _,_,h.rd 0 rfl _,_,h.rd 0 rfl _,?_⟩;refine h.al fun b9 _ h=>?_
  refine qc0 (vs:=[st.ck.smps[j].asked,st.ck.smps[j].got,st.ck.smps[j].sent,st.ck.smps[j].came]) h (fun H h=>h.ce_rd 0 rfl) (by simp) fun a7 c7 H11 h=>⟨_,_,_,rfl,?_⟩
  have q5:=q1j [st.ck.smps[j].asked,st.ck.smps[j].got,st.ck.smps[j].sent,st.ck.smps[j].came];simp only [z59,z5t] at q5;refine appB h (i:=3) rfl rfl rfl (h.sl_rd 0 rfl) (by rw [z51]; omega) fun a8 c8 H12 h=>⟨_,_,_,rfl,?_⟩
  rw [w64 (x:=(j:Int)+1) (by omega) (by omega)];have e5:O++(st.ck.smps.take (j+1)).flatMap smB=(O++(st.ck.smps.take j).flatMap smB)++usB [st.ck.smps[j].asked,st.ck.smps[j].got,st.ck.smps[j].sent,st.ck.smps[j].came]:=by
   rw [q1a (f:=smB) hlt,z5d]
  rw [← e5] at h ⊢;exact⟨⟨j+1,by omega,hlt,rfl,h.o [3,4,5,6,7,8,9,10,11,12,13,14,15,16,17,18] 19⟩,by dsimp only; omega⟩
 have hge:st.ck.smps.length≤j:=by have:=z54 hlt; omega
 rw [z5o hge] at h ljn ⊢;have hO2:(O++st.ck.smps.flatMap smB).length≤500:=by rw [z51]; omega
 generalize O++st.ck.smps.flatMap smB=O2 at *;refine q02 ⟨_,h.rd 5 rfl _,q02 ⟨_,h.rd 5 rfl _,?_⟩⟩;have h:=h.o [6,0,2,3,4,5,7,8,9,10,11,12,13,14,15] 16;refine qao h hsok.hs.rows.rising (qpd hsok) (by omega) fun wa wc H10 h=>⟨_,_,_,rfl,h.rd 6 rfl _,?_⟩
 have h:=h.o [1,0,2,3,4,5,6,7,8,9,10,11,12,13,14,15] 16;refine qup h fun hb2 H11 h=>⟨_,rfl,?_⟩
 refine qun h hsok.hs.rows.rising (qpd hsok) (by omega) fun ea ec evs H12 hevs hlab h=>⟨_,_,_,rfl,?_⟩
 have hel:evs.length=st.hs.rows.length:=by have:=congrArg List.length hevs; simpa using this
 refine q02 ⟨_,h.rd 8 rfl _,_,q9q (h.o [2] 3),?_⟩;refine h.al fun b10 _ h=>?_
 refine qc0 (vs:=[st.hs.next,(st.hs.rows.length:Int)]) h (fun H h=>h.ce_rd 0 rfl) (by simp) fun a7 c7 H13 h=>⟨_,_,_,rfl,?_⟩
 generalize usB [st.hs.next,(st.hs.rows.length:Int)]=X4 at *;refine appB h (i:=6) rfl rfl rfl (h.sl_rd 0 rfl) (by omega) fun a8 c8 H14 h=>⟨_,_,_,rfl,?_⟩
 have hO3:(O2++X4).length≤600:=by rw [z51]; omega
 generalize O2++X4=O3 at *;have hkl:(q03 st.hs.rows).length=st.hs.rows.length:=by simp [q03]
 refine⟨fun a' n' c' i H'=>∃j:Nat,i=j∧j≤st.hs.rows.length∧n'=(O3++(st.hs.rows.take j).flatMap rwB).length∧
  SatL H' (slA 5 1 a' (O3++(st.hs.rows.take j).flatMap rwB).length c' ((O3++(st.hs.rows.take j).flatMap rwB).map U8)::slA 95 4 ea evs.length ec (flat encV evs)::slA 2 1 wa st.hs.rows.length wc ((q03 st.hs.rows).map I64)::hldA Q hb st.hs::ckA cb st.ck::Ma.markC p.mb p.mm s.ms::Ma.mapF p.mm s.ms.m::cellsA stb [PA cb 0,PA hb 0,I64 st.last] 149::mapA I64 ptV p.tm (tabP 0 bl)::qhy Q bl s.sts a.toNat::
   cellsA sb (q46 s p) 115::A1::A2::A3::A4::A5::Q::F),
  fun _ _ _ i _=>st.hs.rows.length - i.toNat,⟨0,rfl,by omega,by simp,?_⟩,?_⟩
 ·rw [show O3++(st.hs.rows.take 0).flatMap rwB=O3 by simp];exact h.o [6,2,5,4,7,8,9,10,11,12,13,14,15,16,17,18,19] 20
 rintro a9 n9 c9 i H15 ⟨j,rfl,hj,rfl,h⟩;unfold q1g.l1;have ljn:=qx8 (st.hs.rows.take j);have ljt:(st.hs.rows.take j).length≤st.hs.rows.length:=by rw [z5n]; omega
 refine⟨fun hlt=>?_,fun hlt=>?_⟩
 ·have hlt:j < st.hs.rows.length:=by have:=z4z hlt; omega
  have hltk:j < (q03 st.hs.rows).length:=by omega
  have hlte:j < evs.length:=by omega
  have hrd:=(h.sl_rd 2 rfl).at hltk;refine⟨by omega,_,_,hrd.1,_,hrd.2,?_⟩;refine h.al fun b12 _ h=>?_
  refine q73 h 0 rfl fun a10 c10 H16 h=>⟨_,_,_,rfl,?_⟩
  have q5:=q1j [(q03 st.hs.rows)[j]];simp only [z59,z5t] at q5;refine appB h (i:=2) rfl rfl rfl (h.sl_rd 0 rfl) (by rw [z51]; omega) fun a11 c11 H17 h=>⟨_,_,_,rfl,?_⟩
  have hrv:=h.sl_rd 3 rfl;refine⟨by omega,_,_,hrv.some q14 (by omega) hlte,_,_,_,_,_,_,hrv.els q14 hlte,?_⟩;refine qkm (e:=evs[j]) h (fun H h=>(hlab _ (z5e hlte)).at h 18 rfl) fun a12 c12 H18 h=>⟨_,_,_,rfl,?_⟩
  have q6:=qp7 evs[j].p;refine appB h (i:=3) rfl rfl rfl (h.sl_rd 0 rfl) (by simp only [z51]; omega) fun a13 c13 H19 h=>⟨_,_,_,rfl,?_⟩
  rw [w64 (x:=(j:Int)+1) (by omega) (by omega)];have ek:(q03 st.hs.rows)[j]=st.hs.rows[j].1:=by simp [q03]
  have ep:evs[j].p=st.hs.rows[j].2:=by
   have h1:(evs.map Ev.p)[j]'(by simpa using hlte)=(st.hs.rows.map (·.2))[j]'(by simpa using hlt):=by simp only [hevs]
   simpa using h1
  have e5:O3++(st.hs.rows.take (j+1)).flatMap rwB=((O3++(st.hs.rows.take j).flatMap rwB)++usB [(q03 st.hs.rows)[j]])++evB evs[j].p:=by
   rw [q1a (f:=rwB) hlt,ek,ep,z5d,z5d]
  rw [← e5] at h ⊢;exact⟨⟨j+1,by omega,hlt,rfl,h.o [3,4,5,6,7,8,9,10,11,12,13,14,15,16,17,18,19] 20⟩,by dsimp only; omega⟩
 ·have hge:st.hs.rows.length≤j:=by have:=z54 hlt; omega
  rw [z5o hge] at h ⊢;refine k _ _ _ ?_;have h:=h.o [7,4,3,8,9,10,11,12,5,6,13,14,15,0,16] 17;have h:=q1n.2 ⟨cb,hb,h⟩;have h:=h.o [1,0,2,3,4,5,6,7,8,9,10,11,12] 13;have h:=qaq hole h;rw [qpc hst] at h;exact h.o [9,10,1,2,3,4,5,6,7,0,8] 11
end
end Go.Proofs.YtfmkddccnjidmaaGreatDoor
namespace Go.Nm
def agOf (s:Sta)(p:Int × En):List Int:=match q8t s p.1 with
 | some st=>agB p.1 p.2 (flOf s.ms p.1) st
 | none=>[]
def nStr (s:Sta):Nat:=(s.sts.filter Option.isSome).length
abbrev ceB (o:Ot):List Int:=cbB o.1 o.2
def stB1 (s:Sta):List Int:=(usB [s.now,s.boots,s.sunk,s.ms.now]++q2y [s.ms.value])++usB [(nStr s:Int)]
def stB2 (s:Sta):List Int:=(stB1 s++(tab 0 s.rows).flatMap (agOf s))++usB [(s.cm.length:Int)]
def stB3 (s:Sta):List Int:=(stB2 s++(q0h s.cm).flatMap ceB)++usB [(s.kept.length:Int)]
def stB (s:Sta):List Int:=stB3 s++s.kept.flatMap ceB
structure qv7 (s:Sta):Prop where
 cm:∀p∈s.cm,p.1.ser.size≤5000
 kept:∀o∈s.kept,o.1.ser.size≤5000
theorem qpe {α:Type}:∀{l:List (Option α)} {i:Nat},(tabP i l).length=(l.filter Option.isSome).length
 | [],i=>rfl
 | none::r,i=>qpe (l:=r) (i:=i+1)
 | some b::r,i=>by
  show (_::tabP (i+1) r).length=_;rw [z59,qpe (l:=r)]; rfl
theorem qfz {α β:Type}:∀{l:List (Option α)} {m:List (Option β)},l.map Option.isSome=m.map Option.isSome→(l.filter Option.isSome).length=(m.filter Option.isSome).length
 | [],[],_=>rfl
 | x::r,y::m,h=>by
  simp only [z5y,List.cons.injEq] at h;have ih:=qfz h.2;rw [z6b,z6b,h.1]
  split
  ·rw [z59,z59,ih]
  ·exact ih
 | [],y::m,h=>by simp at h
 | x::r,[],h=>by simp at h
theorem ql4 {m:CM}{o:Ot}(h:o∈q0h m):∃p∈m,p.1=o.1:=by
 unfold q0h at h;obtain⟨k,hk,rfl⟩:=z5b.1 h;have:=(q1f _).mem_iff.1 hk;obtain⟨p,hp,e⟩:=z5b.1 this;exact⟨p,hp,e⟩
end Go.Nm
namespace Go.Proofs.YtfmkddccnjidmaaGreatDoor
open Go.Nm
section
variable {F L:List Assn} {H:Heap} {K KP:Value→Heap→Prop} {Q Q':Assn} {sb:Nat} {s:Sta}
theorem agB_len {a:Int}{e:En}{fl:Fl}{st:Str}(hsok:qkv s.cfg st):(agB a e fl st).length≤345000:=by
 have q1:=q1j [a,e.epoch,e.boot,e.time,fl.t,flN [fl.out,fl.was,fl.held] 3];have q2:=q4p [st.last];have q3:=q1j [flN [st.ck.held] 1,st.ck.streak,(st.ck.smps.length:Int)];have q4:=q1j [st.hs.next,(st.hs.rows.length:Int)];have q5:=qx7 st.ck.smps;have q6:=qx8 st.hs.rows;have h1:=hsok.ck.len;have h2:=ql3 hsok;unfold agB agB1;simp only [z51,z59,z5t] at *;omega
theorem qir (ok:q2z s)(p:Int × En):(agOf s p).length≤345000:=by
 unfold agOf
 cases h:q8t s p.1 with
 | none=>simp
 | some st=>exact agB_len (ok.sts st (z5w (qs6 h).2))
theorem qas {α:Type}{f:α→List Int}{B:Nat}:∀{l:List α},(∀x∈l,(f x).length≤B)→(l.flatMap f).length≤B*l.length
 | [],_=>by simp
 | x::r,h=>by
  have h1:=h x (z5i ..);have h2:=qas (l:=r) fun y hy=>h y (z5j _ hy)
  rw [z6a,z51,z59,Nat.mul_succ]; omega
theorem qpf {o:Ot}(wc:WC o.2)(hs:o.1.ser.size≤5000):(ceB o).length≤10100:=z3y wc hs
theorem qx9:(stB1 s).length≤60:=by
 have q1:=q1j [s.now,s.boots,s.sunk,s.ms.now];have q2:=q4p [s.ms.value];have q3:=q1j [(nStr s:Int)];unfold stB1;simp only [z51,z59,z5t] at *;omega
theorem strm_len {tm:Nat}{sts:List (Option Str)}(h:SatL H (strmA Q tm sts::F)):q09 Tryz.prog (Builtin.len_ #[113] 3 #[(.map (some tm))]) H (.int .i64 ((sts.filter Option.isSome).length:Nat)):=by
 obtain⟨bl,hm,h⟩:=q74.1 h;have:=h.mp_len (ty:=3) z3e 0 rfl;rw [qpe,qfz hm] at this;exact this
set_option maxHeartbeats 8000000 in
theorem qeb (ok:q2z s)(ser:qv7 s)(hkl:s.kept.length≤50000)(h:SatL H (Q::stA Q sb s::F))
  (k:∀a c H',SatL H' (slA 5 1 a (stB s).length c ((stB s).map U8)::Q::stA Q sb s::F)→K (.slice a (stB s).length c) H') :
  CF 15 #[PA sb 0] H K:=by
 refine q31.call ?_;unfold q31.code;refine h.al fun b _ h=>?_
 have h:=h.o [2,0,1] 3;obtain⟨p,h⟩:=q0f.1 h;intro Jn hJ;have hle:=qwy ok.rows;have hagl:((tab 0 s.rows).flatMap (agOf s)).length≤345000*64:=by
  have:=qas (f:=agOf s) (l:=tab 0 s.rows) (B:=345000) fun x _=>qir ok x
  have:345000*(tab 0 s.rows).length≤345000*64:=z7e _ hle;omega
 have hol:=q9k (m:=s.cm);have hcl:=ok.sh.len;have hcm:=ok.sh.m2;have hO:∀o∈q0h s.cm,(ceB o).length≤10100:=fun o ho=>by
  obtain⟨q,hq,e⟩:=ql4 ho;exact qpf (qiq ok.sh o ho) (by rw [← e]; exact ser.cm q hq)
 have hKp:∀o∈s.kept,(ceB o).length≤10100:=fun o ho=>qpf (ok.kept o ho) (ser.kept o ho)
 have main:∀ob a c H',SatL H' (cellsA ob [.slice a (usB [s.now,s.boots,s.sunk,s.ms.now]).length c] 24::slA 5 1 a (usB [s.now,s.boots,s.sunk,s.ms.now]).length c ((usB [s.now,s.boots,s.sunk,s.ms.now]).map U8)::
   cellsA sb (q46 s p) 115::Ro.rollC p.rb p.rm s.cfg.agents::Ro.mapE p.rm s.rows::Ma.markC p.mb p.mm s.ms::Ma.mapF p.mm s.ms.m::shC p.hb p.hm s.cfg.cells::mapC p.hm s.cm::strmA Q p.tm s.sts::slA 64 74 p.ka s.kept.length p.kc (flat encO s.kept)::cellsA b [PA sb 0] 27::Q::F)→Jn ob 0 H':=by
  intro ob a0 c0 H1 h;refine hJ _ _ _ ?_;unfold q31.r4;have q1:=q1j [s.now,s.boots,s.sunk,s.ms.now];have q2:=q4p [s.ms.value];have q3:=q1j [(nStr s:Int)];have q4:=q1j [(s.cm.length:Int)];have q5:=q1j [(s.kept.length:Int)];simp only [z59,z5t] at q1 q2 q3 q4 q5;have hS1:=qx9 (s:=s);have eS1:stB1 s=(usB [s.now,s.boots,s.sunk,s.ms.now]++q2y [s.ms.value])++usB [(nStr s:Int)]:=rfl;have eS2:stB2 s=(stB1 s++(tab 0 s.rows).flatMap (agOf s))++usB [(s.cm.length:Int)]:=rfl;have eS3:stB3 s=(stB2 s++(q0h s.cm).flatMap ceB)++usB [(s.kept.length:Int)]:=rfl;have hS2:(stB2 s).length≤22100000:=by rw [eS2,z51,z51]; omega
  have hcl2:((q0h s.cm).flatMap ceB).length≤10100*1024:=by
   have h1:=qas (f:=ceB) (l:=q0h s.cm) (B:=10100) hO;have:10100*(q0h s.cm).length≤10100*1024:=z7e _ (by omega);omega
  have hS3:(stB3 s).length≤40000000:=by rw [eS3,z51,z51]; omega
  generalize usB [s.now,s.boots,s.sunk,s.ms.now]=X0 at *;refine⟨_,_,_,h.rd 0 rfl _,_,h.rd 11 rfl _,q02 ⟨_,h.rd 2 rfl _,_,Ma.Value_spec h 5 rfl,?_⟩⟩;refine h.al fun b1 _ h=>⟨h.rd 1 rfl _,?_⟩
  refine q7w h 0 rfl fun a1 c1 H2 h=>⟨_,_,_,rfl,h.rd 2 rfl _,?_⟩
  refine appB h (i:=3) rfl rfl rfl (h.sl_rd 0 rfl) (by omega) fun a2 c2 H3 h=>⟨_,_,_,rfl,?_⟩
  generalize q2y [s.ms.value]=X1 at *;refine h.st 2 rfl rfl ?_;intro H4 h;have h:=h.o [2,3,4,5,6,7,8,9,10,11,12,13,14] 15;refine⟨_,_,_,h.rd 0 rfl _,_,h.rd 11 rfl _,q02 ⟨_,h.rd 2 rfl _,_,strm_len (h.o [9] 10),?_⟩⟩;refine h.al fun b2 _ h=>⟨h.rd 1 rfl _,?_⟩
  refine q73 h 0 rfl fun a3 c3 H5 h=>⟨_,_,_,rfl,h.rd 2 rfl _,?_⟩
  refine appB h (i:=3) rfl rfl rfl (h.sl_rd 0 rfl) (by rw [z51]; unfold nStr at q3; omega) fun a4 c4 H6 h=>⟨_,_,_,rfl,?_⟩
  rw [show (X0++X1)++usB [((s.sts.filter Option.isSome).length:Int)]=stB1 s from eS1.symm] at h ⊢;refine h.st 2 rfl rfl ?_;intro H7 h;have h:=h.o [2,3,4,5,6,7,8,9,10,11,12,13,14] 15;refine⟨_,h.rd 11 rfl _,q02 ⟨_,h.rd 2 rfl _,?_⟩⟩;refine Ro.All_spec h fun c0' H8 h=>⟨_,_,rfl,rfl,fun R hR1 hR2 hy=>?_⟩
  have h:=h.rng R;refine Ro.All1_spec (rb:=p.rb) (mb:=p.rm) (most:=s.cfg.agents) (c0:=c0') ok.rows (fun j=>exS fun q:Option Addr × Nat=>star [cellsA ob [.slice q.1 (stB1 s++((tab 0 s.rows).take j).flatMap (agOf s)).length q.2] 24,slA 5 1 q.1 (stB1 s++((tab 0 s.rows).take j).flatMap (agOf s)).length q.2 ((stB1 s++((tab 0 s.rows).take j).flatMap (agOf s)).map U8),
    cellsA sb (q46 s p) 115,Ma.markC p.mb p.mm s.ms,Ma.mapF p.mm s.ms.m,strmA Q p.tm s.sts,cellsA b [PA sb 0] 27,Q,pt (H8.size+1) (.loop R)]) (pur False)
   (F:=pt H8.size (.deferred (some []))::shC p.hb p.hm s.cfg.cells::mapC p.hm s.cm::slA 64 74 p.ka s.kept.length p.kc (flat encO s.kept)::F) ?_ ?_ ?_ ?_
  ·refine q0r.2 ⟨(a4,c4),SatL.shut [_,_,_,_,_,_,_,_,_] ?_⟩;rw [show stB1 s++((tab 0 s.rows).take 0).flatMap (agOf s)=stB1 s by simp];exact h.o [3,4,5,8,9,12,14,15,0,2,6,7,1,10,11,13] 16
  ·intro j hj G H9 K1 h kt _;obtain⟨⟨a5,c5⟩,h⟩:=q0r.1 h;have h:=SatL.open (A:=[_,_,_,_,_,_,_,_,_]) h;dsimp only at h;refine hy _ _ _ ?_;unfold q31.y1;refine⟨_,_,_,_,rfl,h.getO 8 rfl,?_⟩;refine h.al fun b3 _ h=>?_
   refine h.st 0 rfl rfl ?_;intro H10 h;refine⟨h.getO 9 rfl,h.stl 9 rfl fun H11 h=>⟨_,_,_,h.rd 1 rfl _,_,h.rd 7 rfl _,_,_,_,h.rds 0 rfl rfl,?_⟩⟩
   have hmem:=z5e hj;have htk:=q95 hmem;have hepo:0 < (rowE s.rows (tab 0 s.rows)[j].1).epoch:=by
    have hlk:=qp8 (i:=0) (l:=s.rows) (k:=(tab 0 s.rows)[j].1.toNat);rw [z5p,show (((tab 0 s.rows)[j].1.toNat:Nat):Int)=(tab 0 s.rows)[j].1 by omega] at hlk;have h1:q08 (tab 0 s.rows)[j].1 (tab 0 s.rows)=some (tab 0 s.rows)[j].2:=q2k qfr hmem;have h2:=qfs ok.rows (agent:=(tab 0 s.rows)[j].1);rw [h1] at h2;rw [← h2];exact htk.2.2
   obtain⟨ha0,st,hst⟩:=ok.str hepo;have hag:agOf s (tab 0 s.rows)[j]=agB (tab 0 s.rows)[j].1 (tab 0 s.rows)[j].2 (flOf s.ms (tab 0 s.rows)[j].1) st:=by
    unfold agOf; rw [qd7 ha0 hst]
   have hagn:=qir ok (tab 0 s.rows)[j];have ljn:=qas (f:=agOf s) (l:=(tab 0 s.rows).take j) (B:=345000) fun x _=>qir ok x
   have ljt:((tab 0 s.rows).take j).length≤(tab 0 s.rows).length:=by rw [z5n]; omega
   have ljm:345000*((tab 0 s.rows).take j).length≤345000*64:=z7e _ (by omega);have h:=emp1 (emp1 (emp1 (emp1 (emp1 h))));have h:=h.o [13,8,0,1,9,10,2,3,11,4,5,6,7,12,14] 15;refine qs7 (e:=(tab 0 s.rows)[j].2) ok ha0 hst h fun a6 c6 H12 h=>⟨_,_,_,rfl,h.rd 12 rfl _,?_⟩
   rw [← hag] at h ⊢;refine appB h (i:=13) rfl rfl rfl (h.sl_rd 0 rfl) (by rw [z51]; omega) fun a7 c7 H13 h=>⟨_,_,_,rfl,?_⟩
   refine h.st 12 rfl rfl ?_;intro H14 h;refine⟨h.getO 15 rfl,kt _ ?_⟩;have h:=h.setO 15 rfl (.loop R);have e5:stB1 s++((tab 0 s.rows).take (j+1)).flatMap (agOf s)=(stB1 s++((tab 0 s.rows).take j).flatMap (agOf s))++agOf s (tab 0 s.rows)[j]:=by
    rw [q1a (f:=agOf s) hj,z5d]
   refine q0r.2 ⟨(a7,c7),SatL.shut [_,_,_,_,_,_,_,_,_] ?_⟩;dsimp only;rw [e5];exact h.o [12,13,2,5,6,9,14,1,15] 16
  ·intro H9 h;obtain⟨⟨a5,c5⟩,h⟩:=q0r.1 h;have h:=SatL.open (A:=[_,_,_,_,_,_,_,_,_]) h;dsimp only at h;rw [z6p] at h;refine⟨.ready,none,by decide,by rw [q7p hR1 hR2]; exact h.getO 8 rfl,h.stl 8 rfl fun H10 h=>⟨rfl,?_⟩⟩
   refine⟨_,_,_,h.rd 0 rfl _,_,h.rd 6 rfl _,q02 ⟨_,h.rd 2 rfl _,_,qz0 h 13 14 rfl rfl,?_⟩⟩;refine h.al fun b4 _ h=>⟨h.rd 1 rfl _,?_⟩
   refine q73 h 0 rfl fun a6 c6 H11 h=>⟨_,_,_,rfl,h.rd 2 rfl _,?_⟩
   refine appB h (i:=3) rfl rfl rfl (h.sl_rd 0 rfl) (by rw [z51]; omega) fun a7 c7 H12 h=>⟨_,_,_,rfl,?_⟩
   rw [← eS2] at h ⊢;refine h.st 2 rfl rfl ?_;intro H13 h;have h:=h.o [2,3,4,5,6,7,8,9,12,13,14,15,16,17] 18;refine⟨_,h.rd 6 rfl _,q02 ⟨_,h.rd 2 rfl _,?_⟩⟩;refine qgt h fun c1' H14 h=>⟨_,_,rfl,rfl,fun R1 hR3 hR4 hy2=>?_⟩
   have h:=h.rng R1;refine qe5 (sb:=p.hb) (mb:=p.hm) (most:=s.cfg.cells) (m:=s.cm) (c0:=c1') (by omega)
    (fun j=>exS fun q:Option Addr × Nat=>star [cellsA ob [.slice q.1 (stB2 s++((q0h s.cm).take j).flatMap ceB).length q.2] 24,slA 5 1 q.1 (stB2 s++((q0h s.cm).take j).flatMap ceB).length q.2 ((stB2 s++((q0h s.cm).take j).flatMap ceB).map U8),shC p.hb p.hm s.cfg.cells,mapC p.hm s.cm,pt (H14.size+1) (.loop R1)])
    (fun _=>pur False) (star [cellsA ob [.slice a7 (stB2 s).length c7] 24,slA 5 1 a7 (stB2 s).length c7 ((stB2 s).map U8),pt (H14.size+1) (.loop R1)])
    (F:=pt H14.size (.deferred (some []))::cellsA sb (q46 s p) 115::Ma.markC p.mb p.mm s.ms::Ma.mapF p.mm s.ms.m::strmA Q p.tm s.sts::cellsA b [PA sb 0] 27::Q::Ro.rollC p.rb p.rm s.cfg.agents::Ro.mapE p.rm s.rows::pt H8.size (.deferred (some []))::slA 64 74 p.ka s.kept.length p.kc (flat encO s.kept)::F) ?_ ?_ ?_ ?_ ?_
   ·have h:=h.o [3,4,0,2,14,15,1,5,6,7,8,9,10,11,12,13,16] 17;have h:=SatL.shut [_,_,_] h;exact h.o [1,2,3,0] 4
   ·intro G H15 h;have h:=h.o [2,0,1] 3;have h:=SatL.open (A:=[_,_,_]) h;refine q0r.2 ⟨(a7,c7),SatL.shut [_,_,_,_,_] ?_⟩;rw [show stB2 s++((q0h s.cm).take 0).flatMap ceB=stB2 s by simp];exact h.o [0,1,3,4,2] 5
   ·intro j hj G H15 K1 h kt _;obtain⟨⟨a8,c8⟩,h⟩:=q0r.1 h;have h:=SatL.open (A:=[_,_,_,_,_]) h;dsimp only at h;refine hy2 _ _ _ ?_;unfold q31.y2;have hmem:=z5e hj;have hwc:=qiq ok.sh _ hmem;have hser:(q0h s.cm)[j].1.ser.size≤5000:=by
     obtain⟨q,hq,e⟩:=ql4 hmem;rw [← e]; exact ser.cm q hq
    have hcn:(cbB (q0h s.cm)[j].1 (q0h s.cm)[j].2).length≤10100:=hO _ hmem;have ljn:=qas (f:=ceB) (l:=(q0h s.cm).take j) (B:=10100) fun x hx=>hO x (z7j hx)
    have ljt:((q0h s.cm).take j).length≤(q0h s.cm).length:=by rw [z5n]; omega
    have ljm:10100*((q0h s.cm).take j).length≤10100*1024:=z7e _ (by omega);refine⟨_,_,_,_,_,_,_,_,_,_,rfl,h.getO 4 rfl,?_⟩;refine h.al fun b5 _ h=>?_
    refine h.st 0 rfl rfl ?_;intro H16 h;refine h.al fun b6 _ h=>?_
    refine h.sta 0 rfl rfl fun H17 h=>?_
    refine⟨h.getO 6 rfl,h.stl 6 rfl fun H18 h=>⟨_,_,_,h.rd 2 rfl _,_,_,h.rds 1 rfl rfl,_,_,_,_,_,_,_,_,h.rda 0 rfl,?_⟩⟩
    refine qhn (key:=(q0h s.cm)[j].1) (c:=(q0h s.cm)[j].2) hwc hser h fun a9 c9 H19 h=>⟨_,_,_,rfl,h.rd 3 rfl _,?_⟩
    refine appB h (i:=4) rfl rfl rfl (h.sl_rd 0 rfl) (by rw [z51]; omega) fun a10 c10 H20 h=>⟨_,_,_,rfl,?_⟩
    refine h.st 3 rfl rfl ?_;intro H21 h;refine⟨h.getO 7 rfl,kt _ ?_⟩;have h:=h.setO 7 rfl (.loop R1);have e5:stB2 s++((q0h s.cm).take (j+1)).flatMap ceB=(stB2 s++((q0h s.cm).take j).flatMap ceB)++ceB (q0h s.cm)[j]:=by
     rw [q1a (f:=ceB) hj,z5d]
    refine q0r.2 ⟨(a10,c10),SatL.shut [_,_,_,_,_] ?_⟩;dsimp only;rw [e5];exact h.o [3,4,5,6,7] 8
   ·intro H15 h;obtain⟨⟨a8,c8⟩,h⟩:=q0r.1 h;have h:=SatL.open (A:=[_,_,_,_,_]) h;dsimp only at h;rw [z6p] at h;refine⟨.ready,none,by decide,by rw [q7p hR3 hR4]; exact h.getO 4 rfl,h.stl 4 rfl fun H16 h=>⟨rfl,?_⟩⟩
    refine⟨_,_,_,h.rd 0 rfl _,_,h.rd 10 rfl _,q02 ⟨_,_,_,h.rd 6 rfl _,?_⟩⟩;refine h.al fun b7 _ h=>⟨h.rd 1 rfl _,?_⟩
    refine q73 h 0 rfl fun a9 c9 H17 h=>⟨_,_,_,rfl,h.rd 2 rfl _,?_⟩
    refine appB h (i:=3) rfl rfl rfl (h.sl_rd 0 rfl) (by rw [z51]; omega) fun a10 c10 H18 h=>⟨_,_,_,rfl,?_⟩
    rw [← eS3] at h ⊢;refine h.st 2 rfl rfl ?_;intro H19 h;refine⟨_,h.rd 12 rfl _,q02 ⟨_,_,_,h.rd 8 rfl _,?_⟩⟩;refine⟨fun i H'=>∃(j:Nat) (a:Option Addr) (c:Nat),i=j∧j≤s.kept.length∧
     SatL H' (cellsA ob [.slice a (stB3 s++(s.kept.take j).flatMap ceB).length c] 24::slA 5 1 a (stB3 s++(s.kept.take j).flatMap ceB).length c ((stB3 s++(s.kept.take j).flatMap ceB).map U8)::pt H14.size (.deferred (some []))::pt H8.size (.deferred (some []))::
      Q::cellsA sb (q46 s p) 115::Ro.rollC p.rb p.rm s.cfg.agents::Ro.mapE p.rm s.rows::Ma.markC p.mb p.mm s.ms::Ma.mapF p.mm s.ms.m::shC p.hb p.hm s.cfg.cells::mapC p.hm s.cm::strmA Q p.tm s.sts::slA 64 74 p.ka s.kept.length p.kc (flat encO s.kept)::F),
     fun i _=>s.kept.length - i.toNat,⟨0,a10,c10,rfl,by omega,?_⟩,?_⟩
    ·rw [show stB3 s++(s.kept.take 0).flatMap ceB=stB3 s by simp];exact h.o [2,3,7,16,13,8,14,15,9,10,4,5,11,17] 18
    rintro i H20 ⟨j,a,c,rfl,hj,h⟩;unfold q31.l3;refine⟨fun hlt=>?_,fun hlt=>?_⟩
    ·have hlt:j < s.kept.length:=by have:=z4z hlt; omega
     have hmem:=z5e hlt;have hcn:(cbB s.kept[j].1 s.kept[j].2).length≤10100:=hKp _ hmem;have ljn:=qas (f:=ceB) (l:=s.kept.take j) (B:=10100) fun x hx=>hKp x (z7j hx)
     have ljt:(s.kept.take j).length≤s.kept.length:=by rw [z5n]; omega
     have ljm:10100*(s.kept.take j).length≤10100*50000:=z7e _ (by omega);have hr:=h.sl_rd 13 rfl;refine⟨by omega,_,_,hr.some q32 (by omega) hlt,_,_,_,_,_,_,_,_,_,_,hr.els q32 hlt,?_⟩;refine h.al fun b9 _ h=>?_
     refine h.sta 0 rfl rfl fun H21 h=>?_
     refine⟨_,_,_,h.rd 1 rfl _,_,_,h.rds 0 rfl rfl,_,_,_,_,_,_,_,_,h.rdt (l:=[_,_]) 0 rfl rfl,?_⟩;refine qhn (key:=s.kept[j].1) (c:=s.kept[j].2) (ok.kept _ hmem) (ser.kept _ hmem) h fun a9 c9 H22 h=>⟨_,_,_,rfl,h.rd 2 rfl _,?_⟩
     refine appB h (i:=3) rfl rfl rfl (h.sl_rd 0 rfl) (by rw [z51]; omega) fun a11 c11 H23 h=>⟨_,_,_,rfl,?_⟩
     refine h.st 2 rfl rfl ?_;intro H24 h;rw [w64 (x:=(j:Int)+1) (by omega) (by omega)];have e5:stB3 s++(s.kept.take (j+1)).flatMap ceB=(stB3 s++(s.kept.take j).flatMap ceB)++ceB s.kept[j]:=by
      rw [q1a (f:=ceB) hlt,z5d]
     refine⟨⟨j+1,a11,c11,by omega,hlt,?_⟩,by dsimp only; omega⟩;rw [e5];exact h.o [2,3,4,5,6,7,8,9,10,11,12,13,14,15] 16
    ·have hge:s.kept.length≤j:=by have:=z54 hlt; omega
     rw [z5o hge] at h;refine⟨_,_,_,h.rd 0 rfl _,h.getO 2 rfl,?_⟩;have h:=h.setO 2 rfl (.deferred none);refine⟨h.getO 3 rfl,?_⟩;have h:=h.setO 3 rfl (.deferred none);refine k a c _ ?_;have h:=h.o [5,6,7,8,9,10,11,12,13,1,4] 14;have h:=q0f.2 ⟨p,h⟩;exact h.o [1,2,0] 3
   ·intro j H15 _ h;exact absurd (SatL.consP h).1 id
  ·intro H9 h;exact absurd (SatL.consP h).1 id
 refine⟨_,h.rd 9 rfl _,q02 ⟨_,h.rd 0 rfl _,_,h.rd 9 rfl _,q02 ⟨_,h.rd 0 rfl _,_,h.rd 9 rfl _,q02 ⟨_,h.rd 0 rfl _,_,h.rd 9 rfl _,q02 ⟨_,h.rd 0 rfl _,_,Ma.Now_spec h 3 rfl,?_,?_⟩⟩⟩⟩⟩
 ·refine h.al fun b10 _ h=>⟨?_,?_⟩
  ·refine qc0 (vs:=[s.now,s.boots,s.sunk,s.ms.now]) h (fun H h=>h.ce_rd 0 rfl) (by simp) fun a1 c1 H2 h=>⟨_,_,_,rfl,?_⟩
   refine h.al fun b11 _ h=>?_
   refine h.st 0 rfl rfl ?_;intro H3 h;exact main _ _ _ _ (h.o [0,1,3,4,5,6,7,8,9,10,11,12,13] 14)
  ·refine h.al fun b12 _ h=>?_
   refine qc0 (vs:=[s.now,s.boots,s.sunk,s.ms.now]) h (fun H h=>h.ce_rd 1 rfl) (by simp) fun a1 c1 H2 h=>⟨_,_,_,rfl,?_⟩
   refine h.st 1 rfl rfl ?_;intro H3 h;exact main _ _ _ _ (h.o [1,0,3,4,5,6,7,8,9,10,11,12,13] 14)
 ·refine h.al fun b13 _ h=>⟨Ma.Now_spec h 4 rfl,h.rd 1 rfl _,h.rd 10 rfl _,h.rd 1 rfl _,h.rd 10 rfl _,h.rd 1 rfl _,h.rd 10 rfl _,h.rd 1 rfl _,h.rd 10 rfl _,?_⟩
  refine h.al fun b14 _ h=>?_
  refine qc0 (vs:=[s.now,s.boots,s.sunk,s.ms.now]) h (fun H h=>h.ce_rd 0 rfl) (by simp) fun a1 c1 H2 h=>⟨_,_,_,rfl,?_⟩
  refine h.st 2 rfl rfl ?_;intro H3 h;exact main _ _ _ _ (h.o [2,0,3,4,5,6,7,8,9,10,11,12,13] 14)
end
end Go.Proofs.YtfmkddccnjidmaaGreatDoor
namespace Go.Nm
def qh3 (hs:HS Pv)(s:RS):Except Int (HS Pv × RS):=match q1u s with
 | .error e=>.error e
 | .ok (n,s1)=>match q5x s1 with
  | .error e=>.error e
  | .ok (ev,s2)=>if q5w n [ev]=false then .error 10 else
   if 0 < (hs.offer n [ev]).2.1.length∨0 < (hs.offer n [ev]).2.2 then .error 10 else .ok ((hs.offer n [ev]).1,s2)
end Go.Nm
namespace Go.Proofs.YtfmkddccnjidmaaGreatDoor
open Go.Nm
section
variable {F L:List Assn} {H:Heap} {K KP:Value→Heap→Prop} {Q Q':Assn} {sb:Nat} {s:Sta}
def WPost (rb hb:Nat)(Q:Assn)(F:List Assn)(K KP:Value→Heap→Prop):Except Int (HS Pv × RS)→Prop
 | .ok (hs,s)=>∀Q' H',Sub Q Q'→s.e=0→q04 s.bs→s.bs.length≤1099511627776→SatL H' (Q'::crdA rb s::hldA Q' hb hs::F)→K (.tuple #[]) H'
 | .error e=>∀Q' H',e≠0→Sub Q Q'→SatL H' (Q'::F)→KP (pnV e) H'
set_option maxHeartbeats 2000000 in
theorem qpg {rb hb:Nat}{r:RS}{hs:HS Pv}(ok:hs.Ok)(hn:hs.next≤1125899906842624)(h:SatL H (Q::crdA rb r::hldA Q hb hs::F))(hb0:q04 r.bs)(hl0:r.bs.length≤1099511627776)
  (k:WPost rb hb Q F K KP (qh3 hs r)):CP 107 #[.agg #[PA rb 0],PA hb 0] H K KP:=by
 refine q26.call ?_;unfold q26.code;refine h.al fun b H0 h=>?_
 intro Jn hJ;unfold qh3 at k;have main:∀(n:Int) (Q1:Assn) (ev:Ev) (s2:RS) eb H',(match (if q5w n [ev.p]=false then (.error 10:Except Int (HS Pv × RS)) else
    if 0 < (hs.offer n [ev.p]).2.1.length∨0 < (hs.offer n [ev.p]).2.2 then .error 10 else .ok ((hs.offer n [ev.p]).1,s2)) with|x=>WPost rb hb Q F K KP x)→Sub Q Q1→q8m Q1 ev→s2.e=0→q04 s2.bs→s2.bs.length≤1099511627776→
   SatL H' (cellsA eb (encV ev) 95::Q1::crdA rb s2::hldA Q hb hs::cellsA b [PA rb 0] 109::F)→Jn n eb 0 H':=by
  intro n Q1 ev s2 eb H' k hsub hlab he2 hb2 hl2 h;dsimp only at k;refine hJ _ _ _ _ ?_;unfold q26.r3;refine⟨_,_,_,_,_,_,h.rds 0 rfl rfl,?_⟩;refine h.al fun b1 _ h=>?_
  refine h.al fun b2 _ h=>?_
  refine h.st 0 rfl rfl ?_;intro H2 h;refine⟨_,_,_,_,_,_,_,_,_,_,_,_,_,_,_,_,_,_,_,_,h.rds 0 rfl rfl,?_⟩;have hfl:flat encV [ev]=encV ev:=by simp [flat]
  refine qkh (evs:=[ev]) (a:=some ⟨b1,0,none⟩) (c:=1) h ⟨fun H h=>by rw [hfl]; exact h.ce_rd 1 rfl,fun e he H h=>by
   rw [z60] at he; subst he;exact hlab.at h 3 rfl⟩ (by simp) fun H3 h=>⟨_,rfl,?_⟩
  rw [qp5];show ∀Jn1:Heap→Prop,_;intro Jn1 hJ1;refine⟨fun hc=>?_,fun hc=>hJ1 _ ?_⟩
  ·rw [if_pos (by simpa using hc)] at k;exact k Q1 _ (by decide) hsub (h.o [3] 7)
  ·have hbt:q5w n [ev.p]=true:=by simpa using hc
   rw [if_neg (by rw [hbt]; simp)] at k;unfold q26.r2;refine⟨_,_,_,_,_,_,h.rds 2 rfl rfl,?_⟩;refine h.al fun b3 _ h=>?_
   have h:=h.o [6,0,4,5] 8;have h:=qp4 hsub h;refine qkk (items:=[ev]) h ok hn (fun H h=>by rw [hfl]; exact h.ce_rd 0 rfl) (fun e he=>by rw [z60] at he; subst he; exact hlab) (by simp) fun a2 c2 ready H4 hready hl h=>⟨_,_,_,_,rfl,?_⟩
   have hrl:(hs.offer n ([ev].map Ev.p)).2.1.length=ready.length:=by rw [← hready,z5q]
   intro Jn2 hJ2;refine⟨fun hx=>?_,fun hx=>hJ2 _ ?_⟩
   ·have hx:0 < (hs.offer n [ev.p]).2.1.length∨0 < (hs.offer n [ev.p]).2.2:=by
     simp only [z5h,z52] at hx
     rcases hx with hx|hx
     ·exact .inl (by have:(hs.offer n [ev.p]).2.1.length=ready.length:=hrl; omega)
     ·exact .inr hx
    rw [if_pos hx] at k;exact k Q1 _ (by decide) hsub (h.o [3] 5)
   ·have hx:¬(0 < (hs.offer n [ev.p]).2.1.length∨0 < (hs.offer n [ev.p]).2.2):=by
     simp only [z5g,z58] at hx;rintro (h1|h1)
     ·exact hx.1 (by have:(hs.offer n [ev.p]).2.1.length=ready.length:=hrl; omega)
     ·exact hx.2 h1
    rw [if_neg hx] at k;unfold q26.r1;exact k Q1 _ hsub he2 hb2 hl2 (h.o [3,4,1] 5)
 refine⟨_,h.rds 0 rfl rfl,_,h.rds 0 rfl rfl,?_,?_⟩
 ·have h:=h.o [2,1,0,3] 4;refine q2c h hb0 hl0 ?_
  cases hr:q1u r with
  | error e=>
   rw [hr] at k;exact fun H' he h=>k _ _ he (Sub.refl Q) (h.o [0] 3)
  | ok q=>
  obtain⟨n,s1⟩:=q;rw [hr] at k;dsimp only at k;intro H1 he1 hb1 hl1 h;refine⟨_,rfl,h.rds 2 rfl rfl,?_,?_⟩
  ·have h:=h.o [1,0,2,3] 4;refine qd3 h hb1 hl1 ?_
   cases hr2:q5x s1 with
   | error e=>
    rw [hr2] at k;exact fun Q1 H' he hs1 h=>k _ _ he hs1 (h.o [0] 3)
   | ok q=>
   obtain⟨pv,s2⟩:=q;rw [hr2] at k;dsimp only at k;intro Q1 ev H2 hsub hlab hev he2 hb2 hl2 h;subst hev;refine⟨_,_,_,_,_,_,rfl,?_⟩;refine h.al fun b4 _ h=>?_
   refine h.st 0 rfl rfl ?_;intro H3 h;exact main n Q1 ev s2 b4 H3 k hsub hlab he2 hb2 hl2 (h.o [0,1,2,4,3] 5)
  ·refine h.al fun b5 _ h=>⟨h.rds 3 rfl rfl,?_⟩
   have h:=h.o [2,1,0,3,4] 5;refine qd3 h hb1 hl1 ?_
   cases hr2:q5x s1 with
   | error e=>
    rw [hr2] at k;exact fun Q1 H' he hs1 h=>k _ _ he hs1 (h.o [0] 4)
   | ok q=>
   obtain⟨pv,s2⟩:=q;rw [hr2] at k;dsimp only at k;intro Q1 ev H2 hsub hlab hev he2 hb2 hl2 h;subst hev;refine⟨_,_,_,_,_,_,rfl,?_⟩;refine h.st 2 rfl rfl ?_;intro H3 h;exact main n Q1 ev s2 b5 H3 k hsub hlab he2 hb2 hl2 (h.o [2,0,1,4,3] 5)
 ·refine h.al fun b6 _ h=>⟨h.rds 1 rfl rfl,h.rds 1 rfl rfl,?_⟩
  have h:=h.o [3,2,0,1,4] 5;refine q2c h hb0 hl0 ?_
  cases hr:q1u r with
  | error e=>
   rw [hr] at k;exact fun H' he h=>k _ _ he (Sub.refl Q) (h.o [0] 4)
  | ok q=>
  obtain⟨n,s1⟩:=q;rw [hr] at k;dsimp only at k;intro H1 he1 hb1 hl1 h;refine⟨_,rfl,h.rds 3 rfl rfl,?_⟩;have h:=h.o [1,0,2,3,4] 5;refine qd3 h hb1 hl1 ?_
  cases hr2:q5x s1 with
  | error e=>
   rw [hr2] at k;exact fun Q1 H' he hs1 h=>k _ _ he hs1 (h.o [0] 4)
  | ok q=>
  obtain⟨pv,s2⟩:=q;rw [hr2] at k;dsimp only at k;intro Q1 ev H2 hsub hlab hev he2 hb2 hl2 h;subst hev;refine⟨_,_,_,_,_,_,rfl,?_⟩;refine h.st 2 rfl rfl ?_;intro H3 h;exact main n Q1 ev s2 b6 H3 k hsub hlab he2 hb2 hl2 (h.o [2,0,1,4,3] 5)
end
end Go.Proofs.YtfmkddccnjidmaaGreatDoor
namespace Go.Nm
def q8u:Rd Ot:=fun s=>match q7h s with
 | .error e=>.error e
 | .ok (w,s1)=>
  if (tRes (tRes s1.bs.length s1).2.bs.length (tRes s1.bs.length s1).2).2.e≠0 then .error (tRes (tRes s1.bs.length s1).2.bs.length (tRes s1.bs.length s1).2).2.e else
  if (!(q8l (strB (tRes s1.bs.length s1).1)).2.2 || !inM w 0 4611686018427387903)=true then .error 10 else
  if (q8q (tRes (tRes s1.bs.length s1).2.bs.length (tRes s1.bs.length s1).2).1).2≠0 then .error (q8q (tRes (tRes s1.bs.length s1).2.bs.length (tRes s1.bs.length s1).2).1).2 else
  .ok ((⟨w,strB (tRes s1.bs.length s1).1⟩,(q8q (tRes (tRes s1.bs.length s1).2.bs.length (tRes s1.bs.length s1).2).1).1),(tRes (tRes s1.bs.length s1).2.bs.length (tRes s1.bs.length s1).2).2)
theorem q5a {α:Type}{s s':RS}{x y:α}(h:okR s x=.ok (y,s')):s'=s∧y=x∧s.e=0:=by
 unfold okR at h
 split at h
 ·cases h
 ·rename_i h0
  cases h
  exact⟨rfl,rfl,by simpa using h0⟩
theorem q8s {s s':RS}{w:Int}(h:q7h s=.ok (w,s')):s'.bs.length≤s.bs.length:=by
 rw [(q5a h).1]; exact q5o s
theorem q0u {s s':RS}{w:Int}(h:q1u s=.ok (w,s')):s'.bs.length≤s.bs.length:=by
 rw [(q5a h).1]; exact q5o s
theorem qd8 {s s':RS}{w:Int}(h:numR s=.ok (w,s')):s'.bs.length≤s.bs.length:=by
 rw [(q5a h).1]; exact q5o s
theorem q5b {s s':RS}{m w:Int}(h:q23 m s=.ok (w,s')):s'.bs.length≤s.bs.length:=by
 rw [(q5a h).1]; exact qfm s m
theorem q9c {s s':RS}{m w:Int}(h:upR m s=.ok (w,s')):s'.bs.length≤s.bs.length:=by
 unfold upR at h
 cases e:q1u s with
 | error e'=>rw [e] at h; cases h
 | ok q=>
  obtain⟨v,s1⟩:=q;rw [e] at h;dsimp only at h
  split at h
  ·cases h; exact q0u e
  ·cases h
end Go.Nm
namespace Go.Proofs.YtfmkddccnjidmaaGreatDoor
open Go.Nm
section
variable {F L:List Assn} {H:Heap} {K KP:Value→Heap→Prop} {Q Q':Assn} {sb:Nat} {s:Sta}
set_option maxHeartbeats 4000000 in
theorem qs8 {rb:Nat}{r:RS}(h:SatL H (crdA rb r::F))(hb0:q04 r.bs)(hl0:r.bs.length≤1000000000)
  (k:qzv rb F (fun o:Ot=>.tuple #[aggK o.1,aggC o.2]) K KP (q8u r)):CP 47 #[.agg #[PA rb 0]] H K KP:=by
 refine q97.call ?_;unfold q97.code;refine h.al fun b _ h=>?_
 refine h.al fun b1 _ h=>?_
 refine h.al fun b2 H0 h=>?_
 intro Jn hJ;unfold q8u at k;have main:∀(w:Int) (s1:RS) kb H',q7h r=.ok (w,s1)→q04 s1.bs→s1.bs.length≤1099511627776→
   SatL H' (crdA rb (tRes s1.bs.length s1).2::cellsA kb [I64 w,.string (strB (tRes s1.bs.length s1).1)] 55::cellsA b2 (encC Cl.z) 62::cellsA b1 [I64 0,.string ⟨#[]⟩] 55::cellsA b [PA rb 0] 109::F)→Jn kb 0 H':=by
  intro w s1 kb H1 hsr hb1 hl1 h;have hsl:=q8s hsr;rw [hsr] at k;dsimp only at k;have t1b:=q39 (m:=s1.bs.length) hb1;have t1l:=q5p s1 s1.bs.length;generalize tRes s1.bs.length s1=T1 at *;refine hJ _ _ _ ?_;unfold q97.r2;refine⟨_,h.rd 4 rfl _,_,h.rd 4 rfl _,_,qcu h,?_⟩;refine q77 (most:=T1.2.bs.length) h t1b.1 (by omega) (by unfold wf64; omega) fun H2 h=>⟨_,rfl,_,h.rd 4 rfl _,_,qbp h,?_⟩
  have t2b:=q39 (m:=T1.2.bs.length) t1b.1;have t2l:=q5p T1.2 T1.2.bs.length;generalize tRes T1.2.bs.length T1.2=T2 at *;refine q1v (fun he=>⟨rfl,_,h.rd 1 rfl _,?_⟩) fun he=>?_
  ·rw [if_neg (by simpa using he)] at k;have hsz:=q4q T1.1;refine quj (by omega) h fun la lc H3 h=>⟨_,_,_,_,_,rfl,?_⟩
   generalize (q8l (strB T1.1))=P at *;refine h.al fun b3 _ h=>?_
   refine h.st 0 rfl rfl ?_;intro H4 h;refine⟨_,fun _=>h.rd 3 rfl _,_,fun _=>q3f,?_⟩
   intro Jn1 hJ1;refine⟨fun hx=>?_,fun hx=>hJ1 _ ?_⟩
   ·rw [if_pos hx] at k;exact k _ (by decide) (h.o [] 7)
   ·rw [if_neg (by rw [hx]; simp)] at k;unfold q97.r1;refine qhf t2b.2 h fun a3 c3 H5 h=>⟨_,_,_,rfl,?_⟩
    refine z02 rfl t2b.2 h (fun H h=>h.sl_rd 0 rfl) (by omega) fun H6 h=>⟨_,_,_,_,_,_,_,_,_,rfl,?_⟩
    have hwc:=q8q T2.1;generalize q8q T2.1=B at *;refine h.al fun b4 _ h=>?_
    refine h.sta 0 rfl rfl fun H7 h=>?_
    refine q1v (fun hb=>⟨rfl,?_⟩) fun hb=>?_
    ·rw [if_neg (by simpa using hb)] at k;refine⟨_,_,h.rds 5 rfl rfl,_,_,_,_,_,_,_,_,h.rda 0 rfl,?_⟩;refine h.st 7 rfl rfl ?_;intro H8 h;refine⟨h.rda 0 rfl,?_⟩;refine h.sta 6 rfl rfl fun H9 h=>?_
     refine⟨_,_,h.rds 7 rfl rfl,_,_,_,_,_,_,_,_,h.rda 6 rfl,?_⟩;exact k _ he t2b.1 (by omega) (h.o [4] 9)
    ·rw [if_pos hb] at k;exact k _ hb (h.o [] 9)
  ·rw [if_pos he] at k;exact k _ he (h.o [] 5)
 refine⟨_,h.rds 2 rfl rfl,_,h.rd 2 rfl _,_,h.rd 2 rfl _,?_,?_⟩
 ·have h:=h.o [3,0,1,2] 4;refine q8o h hb0 (by omega) ?_
  cases hr:q7h r with
  | error e=>
   rw [hr] at k;exact fun H' he h=>k _ he (h.o [] 3)
  | ok q=>
  obtain⟨w,s1⟩:=q;intro H1 he1 hb1 hl1 h;refine⟨_,rfl,h.rd 3 rfl _,h.rd 3 rfl _,_,qcu h,?_,?_⟩
  ·refine q77 (most:=s1.bs.length) h hb1 hl1 (by unfold wf64; omega) fun H2 h=>⟨_,rfl,?_⟩
   refine h.al fun b5 _ h=>?_
   refine h.st 0 rfl rfl ?_;intro H3 h;exact main w s1 b5 H3 hr hb1 hl1 (h.o [1,0,2,3,4] 5)
  ·refine h.al fun b6 _ h=>⟨qcu (h.o [1] 2),h.rd 4 rfl _,h.rd 4 rfl _,?_⟩
   have h:=h.o [1,0,2,3,4] 5;refine q77 (most:=s1.bs.length) h hb1 hl1 (by unfold wf64; omega) fun H2 h=>⟨_,rfl,?_⟩
   refine h.st 1 rfl rfl ?_;intro H3 h;exact main w s1 b6 H3 hr hb1 hl1 h
 ·refine h.al fun b7 _ h=>⟨h.rd 3 rfl _,h.rd 3 rfl _,h.rds 3 rfl rfl,?_⟩
  have h:=h.o [4,0,1,2,3] 5;refine q8o h hb0 (by omega) ?_
  cases hr:q7h r with
  | error e=>
   rw [hr] at k;exact fun H' he h=>k _ he (h.o [] 4)
  | ok q=>
  obtain⟨w,s1⟩:=q;intro H1 he1 hb1 hl1 h;refine⟨_,rfl,h.rd 4 rfl _,h.rd 4 rfl _,_,qcu h,?_⟩;refine q77 (most:=s1.bs.length) h hb1 hl1 (by unfold wf64; omega) fun H2 h=>⟨_,rfl,?_⟩
  refine h.st 1 rfl rfl ?_;intro H3 h;exact main w s1 b7 H3 hr hb1 hl1 h
end
end Go.Proofs.YtfmkddccnjidmaaGreatDoor
namespace Go.Nm
def smpR:Rd Smp:=fun s=>match q1u s with
 | .error e=>.error e
 | .ok (a,s1)=>match q1u s1 with
  | .error e=>.error e
  | .ok (b,s2)=>match q1u s2 with
   | .error e=>.error e
   | .ok (c,s3)=>match q1u s3 with
    | .error e=>.error e
    | .ok (d,s4)=>.ok (⟨a,b,c,d⟩,s4)
def qc6:Nat→Rd (List Smp)
 | 0,s=>.ok ([],s)
 | n+1,s=>match qc6 n s with
  | .error e=>.error e
  | .ok (l,s1)=>match smpR s1 with
   | .error e=>.error e
   | .ok (x,s2)=>.ok (l++[x],s2)
def q5s (hs:HS Pv):Nat→RS→Except Int (HS Pv × RS)
 | 0,s=>.ok (hs,s)
 | n+1,s=>match q5s hs n s with
  | .error e=>.error e
  | .ok (h,s1)=>qh3 h s1
theorem qs9:∀{n:Nat} {s:RS} {vs:List Smp} {s':RS},qc6 n s=.ok (vs,s')→vs.length=n
 | 0,s,vs,s',h=>by cases h; rfl
 | n+1,s,vs,s',h=>by
  unfold qc6 at h
  split at h
  ·cases h
  ·rename_i ws s1 h1
   split at h
   ·cases h
   ·cases h
    rw [z51,qs9 h1]; rfl
theorem qsa {s:RS}{e:Int}:∀{n j:Nat},qc6 j s=.error e→j≤n→qc6 n s=.error e
 | 0,j,h,hj=>by
  obtain rfl:j=0:=by omega
  exact h
 | n+1,j,h,hj=>by
  rcases z5r n j with h1|h1
  ·obtain rfl:j=n+1:=by omega
   exact h
  ·unfold qc6;rw [qsa h h1]
theorem qne {hs:HS Pv}{s:RS}{e:Int}:∀{n j:Nat},q5s hs j s=.error e→j≤n→q5s hs n s=.error e
 | 0,j,h,hj=>by
  obtain rfl:j=0:=by omega
  exact h
 | n+1,j,h,hj=>by
  rcases z5r n j with h1|h1
  ·obtain rfl:j=n+1:=by omega
   exact h
  ·unfold q5s;rw [qne h h1]
def qph (c:Cfg)(last:Int)(hd:Bool)(streak:Int)(l:List Smp):Rd Str:=fun s5=>
 if ¬(l.length≤8∧0≤streak∧∀x∈l,x.ok) then .error 10 else match q1u s5 with
  | .error e=>.error e
  | .ok (next,s6)=>if next < 0∨1099511627776 < next then .error 11 else match q23 256 s6 with
   | .error e=>.error e
   | .ok (m,s7)=>match q5s ⟨next,c.hold,[]⟩ m.toNat s7 with
    | .error e=>.error e
    | .ok (hs,s8)=>.ok (⟨⟨c.rho,c.trust,hd,streak,l⟩,hs,last⟩,s8)
def qlu (c:Cfg)(last:Int):Rd Str:=fun s1=>match numR s1 with
 | .error e=>.error e
 | .ok (hd,s2)=>match q1u s2 with
  | .error e=>.error e
  | .ok (streak,s3)=>match q23 8 s3 with
   | .error e=>.error e
   | .ok (n,s4)=>match qc6 n.toNat s4 with
    | .error e=>.error e
    | .ok (l,s5)=>qph c last (decide (hd=1)) streak l s5
def strR (c:Cfg):Rd Str:=fun s=>match q7h s with
 | .error e=>.error e
 | .ok (last,s1)=>if inM last (-1) 4611686018427387903=false then .error 10 else qlu c last s1
theorem z3z {s s':RS}{e:Pv}(h:q5x s=.ok (e,s')):wf64 e.value:=by
 unfold q5x at h
 cases h1:q1u s with
 | error e'=>rw [h1] at h; cases h
 | ok q=>
  obtain⟨a,s1⟩:=q;rw [h1] at h;dsimp only at h
  cases h2:q7h s1 with
  | error e'=>rw [h2] at h; cases h
  | ok q=>
   obtain⟨b,s2⟩:=q;rw [h2] at h;dsimp only at h;rw [(q5a h).2.1];show wf64 b;rw [(q5a h2).2.1];exact q9l _
structure qv8 (m:Int)(hs:HS Pv):Prop where
 ok:hs.Ok
 most:hs.most=m
 next:hs.next≤1099511627776
 rows:∀p∈hs.rows,p.1 < 1099511627776∧q9a p.2=true∧wf64 p.2.value
theorem z0c {m:Int}{hs hs':HS Pv}{s s':RS}(g:qv8 m hs)(h:qh3 hs s=.ok (hs',s')):qv8 m hs':=by
 unfold qh3 at h
 cases h1:q1u s with
 | error e'=>rw [h1] at h; cases h
 | ok q=>
  obtain⟨n,s1⟩:=q;rw [h1] at h;dsimp only at h
  cases h2:q5x s1 with
  | error e'=>rw [h2] at h; cases h
  | ok q=>
   obtain⟨ev,s2⟩:=q;rw [h2] at h;dsimp only at h
   split at h
   ·cases h
   rename_i hb
   split at h
   ·cases h
   cases h
   have hb:q5w n [ev]=true:=by simpa using hb
   unfold q5w at hb;simp only [z56,z52,z69,z59,z5t] at hb;have ho:=HS.offer_ok g.ok n [ev];have hlt:=qx4 (s:=hs) (first:=n) (B:=1099511627776) (items:=[ev]) g.next (fun p hp=>(g.rows p hp).1) (by simp only [z59,z5t]; omega)
   refine⟨ho.1,ho.2.2.2.trans g.most,hlt.1,fun p hp=>⟨hlt.2 p hp,?_⟩⟩
   rcases (qbz (s:=hs) (first:=n) (items:=[ev])).2 p hp with h|h
   ·rw [z60] at h;rw [h];exact⟨hb.2.2 ev (z60.2 rfl),z3z h2⟩
   ·exact (g.rows p h).2
theorem qec {m:Int}{hs:HS Pv}{s:RS}(g:qv8 m hs):∀{n:Nat} {hs':HS Pv} {s':RS},q5s hs n s=.ok (hs',s')→qv8 m hs'
 | 0,hs',s',h=>by cases h; exact g
 | n+1,hs',s',h=>by
  unfold q5s at h
  split at h
  ·cases h
  ·rename_i h1;exact z0c (qec g h1) h
def bitF (v m:Int):Bool:=!decide (q0d .and .u64 v m=0)
def flR (c:Cfg)(t:Int):Rd (Fl × Str):=fun s=>match numR s with
 | .error e=>.error e
 | .ok (v,s1)=>match strR c s1 with
  | .error e=>.error e
  | .ok (st,s2)=>.ok ((⟨t,bitF v 1,bitF v 2,bitF v 4⟩,st),s2)
end Go.Nm
namespace Go.Proofs.YtfmkddccnjidmaaGreatDoor
open Go.Nm
section
variable {F L:List Assn} {H:Heap} {K KP:Value→Heap→Prop} {Q Q':Assn} {sb:Nat} {s:Sta}
def APost (rb sb tm:Nat)(cs:List Value)(sts:List (Option Str))(a:Nat)(Q:Assn)(F:List Assn)(K KP:Value→Heap→Prop):Except Int ((Fl × Str) × RS)→Prop
 | .ok (x,s)=>∀Q' H',Sub Q Q'→s.e=0→q04 s.bs→s.bs.length≤1099511627776→SatL H' (Q'::crdA rb s::cellsA sb cs 115::strmA Q' tm (sts.set a (some x.2))::F)→K (aggF x.1) H'
 | .error e=>∀Q' H',e≠0→Sub Q Q'→SatL H' (Q'::F)→KP (pnV e) H'
theorem qg0:∀{bl:List (Option Nat)} {sts:List (Option Str)} {k:Nat} {F:List Assn},SatL H (strsA Q bl sts::F)→SatL H (strsA Q (bl.set k none) (sts.set k none)::F)
 | [],_,_,_,h=>h
 | none::_,[],0,_,h=>h
 | some _::_,[],0,_,h=>h
 | none::_,[],_+1,_,h=>h
 | some _::_,[],_+1,_,h=>h
 | none::bs,y::ss,0,_,h=>h
 | some x::bs,none::ss,0,_,h=>h
 | some x::bs,some y::ss,0,_,h=>(q2m.1 h).tl
 | none::bs,y::ss,k+1,_,h=>qg0 (bl:=bs) (sts:=ss) (k:=k) h
 | some x::bs,none::ss,k+1,_,h=>qg0 (bl:=bs) (sts:=ss) (k:=k) h
 | some x::bs,some y::ss,k+1,_,h=>by
  have h:=q2m.1 h;have h:=h.o [1,0] 2;have h:=qg0 (bl:=bs) (sts:=ss) (k:=k) h;have h:=h.o [1,0] 2;exact q2m.2 h
set_option maxHeartbeats 8000000 in
theorem qv9 {rb b b1 fb nb tm cb hb:Nat}{a:Nat}{cs:List Value}{sts:List (Option Str)}{fl:Fl}{ck:Ck}{last m:Int}{r:RS}{hs:HS Pv}{P:Except Int ((Fl × Str) × RS)}
  (g:qv8 hs.most hs) (ha:a < sts.length) (h18:lget cs 18=some (.map (some tm))) (hm:0≤m∧m≤256) (hb0:q04 r.bs) (hl0:r.bs.length≤1099511627776) (he0:r.e=0)
  (hP:P=match q5s hs m.toNat r with|.error e=>.error e|.ok (h,s8)=>.ok ((fl,⟨ck,h,last⟩),s8))
  (k:APost rb sb tm cs sts a Q F K KP P)
  (h:SatL H (Q::crdA rb r::hldA Q hb hs::cellsA nb [PA cb 0,PA hb 0,I64 last] 149::ckA cb ck::cellsA fb (encF fl) 80::cellsA b1 [I64 0,.bool false,.bool false,.bool false] 80::cellsA b [PA rb 0] 109::cellsA sb cs 115::strmA Q tm sts::F)) :
  ∃(Inv1:Int→Heap→Prop) (mu1:Int→Heap→Nat),Inv1 0 H∧
   ∀(t114:Int),∀H_50:Heap,Inv1 t114 H_50→q1m.l1 sb 0 (a:Int) K KP b b1 fb 0 (some ⟨nb,0,none⟩) (some ⟨hb,0,none⟩) m Inv1 mu1 t114 H_50:=by
 refine⟨fun i H'=>∃(j:Nat) (Q1:Assn) (hs1:HS Pv) (s1:RS),i=j∧(j:Int)≤m∧Sub Q Q1∧q5s hs j r=.ok (hs1,s1)∧s1.e=0∧q04 s1.bs∧s1.bs.length≤1099511627776∧
  SatL H' (Q1::crdA rb s1::hldA Q1 hb hs1::cellsA nb [PA cb 0,PA hb 0,I64 last] 149::ckA cb ck::cellsA fb (encF fl) 80::cellsA b1 [I64 0,.bool false,.bool false,.bool false] 80::cellsA b [PA rb 0] 109::cellsA sb cs 115::strmA Q tm sts::F),
  fun i _=>m.toNat - i.toNat,⟨0,Q,hs,r,rfl,hm.1,Sub.refl Q,rfl,he0,hb0,hl0,h⟩,?_⟩
 rintro i H1 ⟨j,Q1,hs1,s1,rfl,hj,hsub,hw,he1,hb1,hl1,h⟩;unfold q1m.l1;have g1:=qec g hw;refine⟨fun hc=>?_,fun hc=>?_⟩
 ·have hc:=z4z hc;refine⟨_,h.rds 7 rfl rfl,?_⟩;have hn1:=g1.next;refine qpg g1.ok (by omega) h hb1 hl1 ?_;have hw1:q5s hs (j+1) r=qh3 hs1 s1:=by
   rw [q5s,hw]
  cases hr:qh3 hs1 s1 with
  | error e=>
   rw [hr] at hw1;rw [hP,qne hw1 (by omega)] at k;exact fun Q2 H' he hs2 h=>k Q2 H' he (hsub.trans hs2) (h.o [0] 8)
  | ok q=>
  obtain⟨hs2,s2⟩:=q;rw [hr] at hw1;intro Q2 H' hq2 he2 hb2 hl2 h;refine⟨rfl,?_⟩;rw [w64 (x:=(j:Int)+1) (by omega) (by omega)];exact⟨⟨j+1,Q2,hs2,s2,by omega,by omega,hsub.trans hq2,hw1,he2,hb2,hl2,h⟩,by dsimp only; omega⟩
 ·have hge:=z54 hc;have hjm:j=m.toNat:=by omega
  subst hjm;rw [hP,hw] at k;refine⟨_,(h.rd 8 rfl _).trans h18,?_⟩;have h:=h.o [9,0,1,2,3,4,5,6,7,8] 10;have h:=qrw hsub h;obtain⟨bl,hbm,h⟩:=q74.1 h;refine h.mp_update (α:=Option Nat) (v:=some nb) (x:=((a:Nat):Int)) z3e ko2 0 rfl fun H2 h=>?_
  refine⟨_,_,_,_,h.rds 7 rfl rfl,?_⟩;refine h.st 8 rfl rfl ?_;intro H3 h;refine⟨_,_,_,_,h.rds 8 rfl rfl,?_⟩;refine k Q1 _ hsub he1 hb1 hl1 ?_;have h:=h.o [1,0,2,3,4,5,6,10] 11;have h:=qg0 (k:=a) h;have h:=h.o [5,6,4,1,0,2,3,7] 8;have h:SatL H3 (strA Q1 nb ⟨ck,hs1,last⟩::_):=q1n.2 ⟨cb,hb,h⟩;have h:=h.o [1,0,2,3,4,5] 6;have h:=z3r hbm ha h;exact h.o [1,2,3,0] 4
def withFl (fl:Fl):Except Int (Str × RS)→Except Int ((Fl × Str) × RS)
 | .error e=>.error e
 | .ok (st,s)=>.ok ((fl,st),s)
set_option maxHeartbeats 8000000 in
theorem qva {rb b b1 fb nb tm cb hb0:Nat}{a:Nat}{cs:List Value}{sts:List (Option Str)}{fl:Fl}{ck0:Ck}{c:Cfg}{last streak:Int}{hd:Bool}{l:List Smp}{la:Option Addr}{lc:Nat}{r:RS}
  (ok:qde c) (hrho:ck0.rho=c.rho) (hle:ck0.least=c.trust) (ha:a < sts.length) (h18:lget cs 18=some (.map (some tm))) (h8:lget cs 8=some (I64 c.hold)) (hbb:q04 r.bs) (hl0:r.bs.length≤1099511627776)
  (k:APost rb sb tm cs sts a Q F K KP (withFl fl (qph c last hd streak l r)))
  (h:SatL H (ckA cb ck0::slA 43 4 la l.length lc (flat q5u l)::Q::crdA rb r::cellsA nb [PA cb 0,PA hb0 0,I64 last] 149::cellsA fb (encF fl) 80::cellsA b1 [I64 0,.bool false,.bool false,.bool false] 80::cellsA b [PA rb 0] 109::cellsA sb cs 115::strmA Q tm sts::F)) :
  NN (some ⟨nb,0,none⟩) (
 ∃v2,q00 H (adrB (some ⟨nb,0,none⟩)) (adrO (some ⟨nb,0,none⟩))=some (.pointer v2)∧
 CF 106 #[(.pointer v2),(.bool hd),(I64 streak),(.slice la l.length lc)] H fun u16 H_39=>∃r15,u16=(I64 r15)∧
 CP 45 #[(I64 r15)] H_39 (fun u17 H_40=>u17=(.tuple #[])∧
 ∃c12,q01 H_40 b 0 [(.pointer c12)]∧
 ∃v3,q00 H_40 sb (0+8)=some (I64 v3)∧
 CP 43 #[(.agg #[(.pointer c12)])] H_40 (fun u18 H_42=>∃r16,u18=(I64 r16)∧
 q00 H_42 sb (0+8)=some (I64 v3)∧
 CF 56 #[(I64 r16),(I64 v3)] H_42 fun u19 H_44=>∃r17 r18,u19=(.tuple #[(.pointer r17),(I64 r18)])∧
 CP 45 #[(I64 r18)] H_44 (fun u20 H_45=>u20=(.tuple #[])∧
 NN (some ⟨nb,0,none⟩) (
 ST H_45 (adrB (some ⟨nb,0,none⟩)) ((adrO (some ⟨nb,0,none⟩))+1) [(.pointer r17)] fun H_47=>
 ∃c13,q01 H_47 b 0 [(.pointer c13)]∧
 CP 42 #[(.agg #[(.pointer c13)]),(I64 256)] H_47 (fun u21 H_48=>∃r19,u21=(I64 r19)∧
 ∃(Inv1:Int→Heap→Prop) (mu1:Int→Heap→Nat),Inv1 0 H_48∧
 ∀(t114:Int),∀H_50:Heap,Inv1 t114 H_50→q1m.l1 sb 0 (a:Int) K KP b b1 fb 0 (some ⟨nb,0,none⟩) r17 r19 Inv1 mu1 t114 H_50) (fun (pn16:Value) (H_49:Heap)=>
 KP pn16 H_49))) (fun (pn15:Value) (H_46:Heap)=>
 KP pn15 H_46)) (fun (pn14:Value) (H_43:Heap)=>
 KP pn14 H_43)) (fun (pn13:Value) (H_41:Heap)=>
 KP pn13 H_41)):=by
 unfold qph at k;refine q02 ⟨_,h.rd 4 rfl 0,?_⟩;refine qys (held:=hd) (streak:=streak) h (fun H h=>h.sl_rd 0 rfl) (fun hn H1 h=>⟨_,rfl,?_⟩) fun hp H1 h=>⟨_,rfl,?_⟩
 ·rw [if_pos hn] at k;exact q1v (fun e=>absurd e (by decide)) fun e=>k Q _ (by decide) (Sub.refl Q) (h.o [2] 10)
 rw [if_neg (not_not_intro hp)] at k;refine q1v (fun _=>⟨rfl,_,h.rds 7 rfl rfl,_,(h.rd 8 rfl _).trans h8,?_⟩) fun e=>absurd rfl e
 have h:=h.o [3,0,2,4,5,6,7,8,9] 10;refine q2c h hbb hl0 ?_
 cases hr:q1u r with
 | error e=>
  rw [hr] at k;exact fun H' he h=>k Q _ he (Sub.refl Q) (h.o [1] 8)
 | ok q=>
 obtain⟨next,s6⟩:=q;rw [hr] at k;dsimp only at k;intro H2 he6 hb6 hl6 h;refine⟨_,rfl,(h.rd 7 rfl _).trans h8,?_⟩;refine qkj (Q:=Q) h (fun hn=>⟨_,_,rfl,?_⟩) fun hb H3 hp2 h=>⟨_,_,rfl,?_⟩
 ·have hh:=ok.hd;rw [if_pos (by omega)] at k;exact q1v (fun e=>absurd e (by decide)) fun e=>k Q _ (by decide) (Sub.refl Q) (h.o [2] 9)
 rw [if_neg (by omega)] at k;refine q1v (fun _=>⟨rfl,q02 ?_⟩) fun e=>absurd rfl e
 refine h.st 4 rfl rfl ?_;intro H4 h;refine⟨_,h.rds 7 rfl rfl,?_⟩;have h:=h.o [1,0,2,3,4,5,6,7,8,9] 10;refine q8p (by unfold wf64; decide) h hb6 hl6 ?_
 cases hr2:q23 256 s6 with
 | error e=>
  rw [hr2] at k;exact fun H' he h=>k Q _ he (Sub.refl Q) (h.o [2] 9)
 | ok q=>
 obtain⟨m,s7⟩:=q;rw [hr2] at k;dsimp only at k;have hm:0≤m∧m≤256:=by
  rw [(q5a hr2).2.1];unfold cRes
  split
  ·dsimp only; omega
  ·split
   ·split
    ·dsimp only; omega
    ·dsimp only; omega
   ·dsimp only; omega
   ·dsimp only; omega
 intro H5 he7 hb7 hl7 h;refine⟨_,rfl,?_⟩;have hg:qv8 c.hold (⟨next,c.hold,[]⟩:HS Pv):=⟨⟨hp2.1,hp2.2.2.1,hp2.2.2.2,⟨by simp [q4n],fun p hp=>absurd hp (by simp)⟩⟩,rfl,hp2.2.1,fun p hp=>absurd hp (by simp)⟩
 refine qv9 (fl:=fl) (r:=s7) (m:=m) (hs:=⟨next,c.hold,[]⟩) (ck:=⟨c.rho,c.trust,hd,streak,l⟩) (last:=last) (cb:=cb) hg ha h18 hm hb7 hl7 he7 ?_ k ?_
 ·cases q5s ⟨next,c.hold,[]⟩ m.toNat s7 with
  | error e=>rfl
  | ok q=>rfl
 ·have h:=h.o [3,0,1,4,2,5,6,7,8,9] 10;rw [hrho,hle] at h;exact h
end
open Go.Nm
section
variable {F L:List Assn} {H:Heap} {K KP:Value→Heap→Prop} {Q Q':Assn} {sb:Nat} {s:Sta}
set_option maxHeartbeats 8000000 in
theorem qvb {rb b b1 fb nb tm cb hb0:Nat}{a:Nat}{cs:List Value}{sts:List (Option Str)}{fl:Fl}{ck0:Ck}{c:Cfg}{last:Int}{r:RS}
  (ok:qde c) (hrho:ck0.rho=c.rho) (hle:ck0.least=c.trust) (ha:a < sts.length) (h18:lget cs 18=some (.map (some tm))) (h8:lget cs 8=some (I64 c.hold)) (hbb:q04 r.bs) (hl0:r.bs.length≤1099511627776)
  (k:APost rb sb tm cs sts a Q F K KP (withFl fl (qlu c last r)))
  (h:SatL H (crdA rb r::ckA cb ck0::Q::cellsA nb [PA cb 0,PA hb0 0,I64 last] 149::cellsA fb (encF fl) 80::cellsA b1 [I64 0,.bool false,.bool false,.bool false] 80::cellsA b [PA rb 0] 109::cellsA sb cs 115::strmA Q tm sts::F)) :
  q1m.r3 sb 0 (a:Int) K KP b b1 fb 0 (some ⟨nb,0,none⟩) H:=by
 unfold qlu at k;unfold q1m.r3;refine⟨_,h.rds 6 rfl rfl,_,h.rds 6 rfl rfl,?_⟩;refine q8n h hbb hl0 ?_
 cases hr:numR r with
 | error e=>
  rw [hr] at k;exact fun H' he h=>k Q _ he (Sub.refl Q) (h.o [1] 8)
 | ok q=>
 obtain⟨hd,s2⟩:=q;rw [hr] at k;dsimp only at k;intro H1 he2 hb2 hl2 h;refine⟨_,rfl,h.rds 6 rfl rfl,?_⟩;refine q2c h hb2 hl2 ?_
 cases hr2:q1u s2 with
 | error e=>
  rw [hr2] at k;exact fun H' he h=>k Q _ he (Sub.refl Q) (h.o [1] 8)
 | ok q=>
 obtain⟨streak,s3⟩:=q;rw [hr2] at k;dsimp only at k;intro H2 he3 hb3 hl3 h;refine⟨_,rfl,_,h.rds 6 rfl rfl,?_⟩;refine q8p (by unfold wf64; decide) h hb3 hl3 ?_
 cases hr3:q23 8 s3 with
 | error e=>
  rw [hr3] at k;exact fun H' he h=>k Q _ he (Sub.refl Q) (h.o [1] 8)
 | ok q=>
 obtain⟨n,s4⟩:=q;rw [hr3] at k;dsimp only at k;have hn8:0≤n∧n≤8:=by
  rw [(q5a hr3).2.1];exact z2x s3
 intro H3 he4 hb4 hl4 h;refine⟨_,rfl,?_⟩;refine⟨fun la ln lc i H'=>∃(j:Nat) (l:List Smp) (s5:RS),i=j∧(j:Int)≤n∧ln=l.length∧qc6 j s4=.ok (l,s5)∧q04 s5.bs∧s5.bs.length≤1099511627776∧
  SatL H' (ckA cb ck0::slA 43 4 la l.length lc (flat q5u l)::Q::crdA rb s5::cellsA nb [PA cb 0,PA hb0 0,I64 last] 149::cellsA fb (encF fl) 80::cellsA b1 [I64 0,.bool false,.bool false,.bool false] 80::cellsA b [PA rb 0] 109::cellsA sb cs 115::strmA Q tm sts::F),
  fun _ _ _ i _=>n.toNat - i.toNat,⟨0,[],s4,rfl,hn8.1,rfl,rfl,hb4,hl4,(h.sl_nil 43 4).o [2,0,3,1,4,5,6,7,8,9] 10⟩,?_⟩
 rintro la ln lc i H4 ⟨j,l,s5,rfl,hj,rfl,hls,hb5,hl5,h⟩;unfold q1m.l2;have hll:=qs9 hls;refine⟨fun hc=>?_,fun hc=>?_⟩
 ·have hc:=z4z hc;have hsn:qc6 (j+1) s4=match smpR s5 with|.error e=>.error e|.ok (x,s2)=>.ok (l++[x],s2):=by
   rw [qc6,hls] <;> rfl
  have bad:∀e Q' H',smpR s5=.error e→e≠0→Sub Q Q'→SatL H' (Q'::F)→KP (pnV e) H':=by
   intro e Q' H' hse he hs h;rw [hse] at hsn;rw [qsa hsn (by omega)] at k;exact k Q' H' he hs h
  unfold smpR at bad hsn;refine⟨_,h.rds 7 rfl rfl,_,h.rds 7 rfl rfl,_,h.rds 7 rfl rfl,_,h.rds 7 rfl rfl,?_⟩;have h:=h.o [3,0,1,2,4,5,6,7,8,9] 10;refine q2c h hb5 hl5 ?_
  cases q1:q1u s5 with
  | error e=>
   rw [q1] at bad;exact fun H' he h=>bad _ Q _ rfl he (Sub.refl Q) (h.o [2] 9)
  | ok q=>
  obtain⟨x1,s6⟩:=q;rw [q1] at bad hsn;dsimp only at bad hsn;intro H5 he6 hb6 hl6 h;refine⟨_,rfl,h.rds 7 rfl rfl,h.rds 7 rfl rfl,h.rds 7 rfl rfl,?_⟩;refine q2c h hb6 hl6 ?_
  cases q2:q1u s6 with
  | error e=>
   rw [q2] at bad;exact fun H' he h=>bad _ Q _ rfl he (Sub.refl Q) (h.o [2] 9)
  | ok q=>
  obtain⟨x2,s7⟩:=q;rw [q2] at bad hsn;dsimp only at bad hsn;intro H6 he7 hb7 hl7 h;refine⟨_,rfl,h.rds 7 rfl rfl,h.rds 7 rfl rfl,?_⟩;refine q2c h hb7 hl7 ?_
  cases q3:q1u s7 with
  | error e=>
   rw [q3] at bad;exact fun H' he h=>bad _ Q _ rfl he (Sub.refl Q) (h.o [2] 9)
  | ok q=>
  obtain⟨x3,s8⟩:=q;rw [q3] at bad hsn;dsimp only at bad hsn;intro H7 he8 hb8 hl8 h;refine⟨_,rfl,h.rds 7 rfl rfl,?_⟩;refine q2c h hb8 hl8 ?_
  cases q4:q1u s8 with
  | error e=>
   rw [q4] at bad;exact fun H' he h=>bad _ Q _ rfl he (Sub.refl Q) (h.o [2] 9)
  | ok q=>
  obtain⟨x4,s9⟩:=q;rw [q4] at bad hsn;dsimp only at bad hsn;intro H8 he9 hb9 hl9 h;refine⟨_,rfl,?_⟩;refine h.al fun b2 _ h=>?_
  refine h.append (m:=1) (ws:=q5u ⟨x1,x2,x3,x4⟩) z2d 3 rfl (h.ce_rd 0 rfl) rfl (qe2 _) (by omega) (by omega) fun a5 c5 H9 h=>⟨_,_,_,rfl,?_⟩
  rw [w64 (x:=(j:Int)+1) (by omega) (by omega)];refine⟨⟨j+1,l++[⟨x1,x2,x3,x4⟩],s9,by omega,by omega,by rw [z51]; rfl,hsn,hb9,hl9,?_⟩,by dsimp only; omega⟩;have e:flat q5u (l++[⟨x1,x2,x3,x4⟩])=flat q5u l++q5u ⟨x1,x2,x3,x4⟩:=by rw [q0i]; simp [flat]
  rw [e,z51];exact h.o [2,3,4,1,5,6,7,8,9,10] 11
 ·have hge:=z54 hc;have hjn:j=n.toNat:=by omega
  subst hjn;rw [hls] at k;dsimp only at k;exact qva (fl:=fl) (ck0:=ck0) (hb0:=hb0) ok hrho hle ha h18 h8 hb5 hl5 k h
end
end Go.Proofs.YtfmkddccnjidmaaGreatDoor
namespace Go.Nm
def agtR (s:Sta)(a:Int):Rd (List En × Fl × Str):=fun r=>match q1u r with
 | .error e=>.error e
 | .ok (ep,s1)=>match q1u s1 with
  | .error e=>.error e
  | .ok (bt,s2)=>match q1u s2 with
   | .error e=>.error e
   | .ok (tm,s3)=>if (setR s.cfg.agents s.rows a ⟨ep,bt,tm⟩).2≠0 then .error (setR s.cfg.agents s.rows a ⟨ep,bt,tm⟩).2 else match upR s.now s3 with
    | .error e=>.error e
    | .ok (t,s4)=>match flR s.cfg t s4 with
     | .error e=>.error e
     | .ok (x,s5)=>.ok (((setR s.cfg.agents s.rows a ⟨ep,bt,tm⟩).1,x.1,x.2),s5)
theorem qsb {most:Int}{rows:List En}{a:Int}{e:En}(h:(setR most rows a e).2=0):0≤a∧a≤63∧1≤e.epoch∧(setR most rows a e).1=rows.set a.toNat e∧¬0 < (rowE rows a).epoch:=by
 unfold setR at h ⊢
 split at h
 ·simp at h
 rename_i h1;rw [if_neg h1]
 split at h
 ·simp at h
 rename_i h2;rw [if_neg h2]
 split at h
 ·simp at h
 rename_i h3;rw [if_neg h3];unfold bad at h1;exact⟨by omega,by omega,by omega,rfl,h2⟩
end Go.Nm
namespace Go.Proofs.YtfmkddccnjidmaaGreatDoor
open Go.Nm
section
variable {F L:List Assn} {H:Heap} {K KP:Value→Heap→Prop} {Q Q':Assn} {sb:Nat} {s:Sta}
set_option maxHeartbeats 8000000 in
theorem z40 {rb b b1 fb:Nat}{a:Nat}{p:SAd}{t r3:Int}{r:RS}
  (ok:qde s.cfg) (ha:a < s.sts.length) (hbb:q04 r.bs) (hl0:r.bs.length≤1099511627776)
  (k:APost rb sb p.tm (q46 s p) s.sts a Q F K KP (flR s.cfg t r))
  (h:SatL H (crdA rb r::Q::cellsA fb [I64 t,.bool false,.bool false,.bool false] 80::cellsA b1 [I64 0,.bool false,.bool false,.bool false] 80::cellsA b [PA rb 0] 109::cellsA sb (q46 s p) 115::strmA Q p.tm s.sts::F)) :
  q1m.r4 sb 0 (a:Int) K KP b b1 r3 fb 0 H:=by
 unfold flR at k;unfold q1m.r4;refine⟨_,h.rds 4 rfl rfl,?_⟩;refine q8n h hbb hl0 ?_
 cases hr:numR r with
 | error e=>
  rw [hr] at k;exact fun H' he h=>k Q _ he (Sub.refl Q) (h.o [0] 6)
 | ok q=>
 obtain⟨v,s1⟩:=q;rw [hr] at k;dsimp only at k;intro H1 he1 hb1 hl1 h;refine⟨_,rfl,?_⟩;refine h.st 2 rfl rfl ?_;intro H2 h;refine h.st 2 rfl rfl ?_;intro H3 h;refine h.st 2 rfl rfl ?_;intro H4 h;have h:=h.o [5,0,1,2,3,4,6] 7;refine qn9 (Q:=Q) ok h fun nb H5 h=>⟨_,rfl,?_⟩
 obtain⟨cb,hb0,h⟩:=q1n.1 h;refine⟨_,h.rds 8 rfl rfl,?_⟩;have h:=h.o [4,0,1,2,3,5,6,7,8,9] 10;refine q8o h hb1 hl1 ?_;unfold strR at k
 cases hr2:q7h s1 with
 | error e=>
  rw [hr2] at k;exact fun H' he h=>k Q _ he (Sub.refl Q) (h.o [4] 9)
 | ok q=>
 obtain⟨last,s2⟩:=q;rw [hr2] at k;dsimp only at k;intro H6 he2 hb2 hl2 h;refine⟨_,rfl,q02 ?_⟩;refine h.st 1 rfl rfl ?_;intro H7 h;refine q02 ⟨_,h.rd 1 rfl _,_,q3f,?_⟩;intro Jn1 hJ1;refine⟨fun hc=>?_,fun hc=>hJ1 _ ?_⟩
 ·rw [if_pos (by rw [z5k] at hc; exact hc)] at k;exact k Q _ (by decide) (Sub.refl Q) (h.o [5] 10)
 ·rw [if_neg (by rw [z67] at hc; rw [hc]; simp)] at k;refine qvb (fl:=⟨t,bitF v 1,bitF v 2,bitF v 4⟩) (ck0:=(qc4 s.cfg).ck) (hb0:=hb0) (c:=s.cfg) (last:=last) (cb:=cb) ok rfl rfl ha rfl rfl hb2 hl2 ?_ (h.o [0,2,5,1,6,7,8,4,9] 10)
  cases hq:qlu s.cfg last s2 with
  | error e=>rw [hq] at k; exact k
  | ok q=>rw [hq] at k; exact k
def BPost (rb sb:Nat)(s:Sta)(p:SAd)(a:Int)(Q:Assn)(F:List Assn)(K KP:Value→Heap→Prop):Except Int ((List En × Fl × Str) × RS)→Prop
 | .ok (x,r)=>∀Q' H',Sub Q Q'→r.e=0→q04 r.bs→r.bs.length≤1099511627776→SatL H' (Q'::crdA rb r::cellsA sb (q46 s p) 115::strmA Q' p.tm (s.sts.set a.toNat (some x.2.2))::Ro.rollC p.rb p.rm s.cfg.agents::Ro.mapE p.rm x.1::F)→K (aggF x.2.1) H'
 | .error e=>∀Q' H',e≠0→Sub Q Q'→SatL H' (Q'::F)→KP (pnV e) H'
set_option maxHeartbeats 8000000 in
theorem qsc {rb:Nat}{p:SAd}{a:Int}{r:RS}(ok:qde s.cfg)(rok:q3u s.rows)(hlen:s.sts.length=64)(hbb:q04 r.bs)(hl0:r.bs.length≤1099511627776)
  (k:BPost rb sb s p a Q F K KP (agtR s a r))
  (h:SatL H (crdA rb r::Q::cellsA sb (q46 s p) 115::Ro.rollC p.rb p.rm s.cfg.agents::Ro.mapE p.rm s.rows::strmA Q p.tm s.sts::F)) :
  CP 44 #[.agg #[PA rb 0],PA sb 0,I64 a] H K KP:=by
 refine q1m.call ?_;unfold q1m.code;unfold agtR at k;refine h.al fun b _ h=>?_
 refine h.al fun b1 _ h=>⟨_,h.rd 4 rfl _,_,h.rds 1 rfl rfl,_,h.rds 1 rfl rfl,_,h.rds 1 rfl rfl,?_⟩
 have h:=h.o [2,0,1,3,4,5,6,7] 8;refine q2c h hbb hl0 ?_
 cases q1:q1u r with
 | error e=>
  rw [q1] at k;exact fun H' he h=>k Q _ he (Sub.refl Q) (h.o [2] 7)
 | ok q=>
 obtain⟨ep,s1⟩:=q;rw [q1] at k;dsimp only at k;intro H1 he1 hb1 hl1 h;refine⟨_,rfl,h.rds 2 rfl rfl,h.rds 2 rfl rfl,h.rd 4 rfl _,?_⟩;refine q2c h hb1 hl1 ?_
 cases q2:q1u s1 with
 | error e=>
  rw [q2] at k;exact fun H' he h=>k Q _ he (Sub.refl Q) (h.o [2] 7)
 | ok q=>
 obtain⟨bt,s2⟩:=q;rw [q2] at k;dsimp only at k;intro H2 he2 hb2 hl2 h;refine⟨_,rfl,h.rds 2 rfl rfl,h.rd 4 rfl _,?_⟩;refine q2c h hb2 hl2 ?_
 cases q3:q1u s2 with
 | error e=>
  rw [q3] at k;exact fun H' he h=>k Q _ he (Sub.refl Q) (h.o [2] 7)
 | ok q=>
 obtain⟨tm,s3⟩:=q;rw [q3] at k;dsimp only at k;intro H3 he3 hb3 hl3 h;refine⟨_,rfl,h.rd 4 rfl _,?_⟩;have h:=h.o [5,6,0,1,2,3,4,7] 8;refine Ro.Set_spec rok (agent:=a) (x:=⟨ep,bt,tm⟩) h fun H4 h=>⟨_,rfl,?_⟩
 have hsg:=qsb (most:=s.cfg.agents) (rows:=s.rows) (a:=a) (e:=⟨ep,bt,tm⟩);generalize setR s.cfg.agents s.rows a ⟨ep,bt,tm⟩=G at *;refine q1v (fun he=>⟨rfl,?_⟩) fun he=>?_
 ·rw [if_neg (by simpa using he)] at k;obtain⟨g1,g2,-⟩:=hsg he;have hag:((a.toNat:Nat):Int)=a:=by omega
  intro Jn hJ;have main:∀(t:Int) (s4:RS) fb H',upR s.now s3=.ok (t,s4)→q04 s4.bs→s4.bs.length≤1099511627776→
    SatL H' (crdA rb s4::Q::cellsA fb [I64 t,.bool false,.bool false,.bool false] 80::cellsA b1 [I64 0,.bool false,.bool false,.bool false] 80::cellsA b [PA rb 0] 109::cellsA sb (q46 s p) 115::strmA Q p.tm s.sts::Ro.rollC p.rb p.rm s.cfg.agents::Ro.mapE p.rm G.1::F)→Jn fb 0 H':=by
   intro t s4 fb H5 hu hb4 hl4 h;rw [hu] at k;dsimp only at k;refine hJ _ _ _ ?_;have:=z40 (a:=a.toNat) (t:=t) (r3:=0) ok (by omega) hb4 hl4 (K:=K) (KP:=KP) ?_ h
   ·rw [hag] at this;rw [he];exact this
   ·cases hq:flR s.cfg t s4 with
    | error e=>
     rw [hq] at k;exact fun Q' H' he hs h=>k Q' H' he hs (h.o [0] 3)
    | ok q=>
     rw [hq] at k;exact fun Q' H' hs he hb hl h=>k Q' H' hs he hb hl h
  refine⟨_,h.rds 4 rfl rfl,_,h.rd 6 rfl _,?_,?_⟩
  ·have h:=h.o [2,0,1,3,4,5,6,7] 8;refine q9r h hb3 hl3 ?_
   cases hu:upR s.now s3 with
   | error e=>
    rw [hu] at k;exact fun H' he h=>k Q _ he (Sub.refl Q) (h.o [4] 7)
   | ok q=>
   obtain⟨t,s4⟩:=q;intro H5 he4 hb4 hl4 h;refine⟨_,rfl,?_⟩;refine h.al fun b3 _ h=>?_
   refine h.st 0 rfl rfl ?_;intro H6 h;exact main t s4 b3 H6 hu hb4 hl4 (h.o [1,6,0,4,5,7,8,2,3] 9)
  ·refine h.al fun b4 _ h=>⟨h.rd 7 rfl _,h.rds 5 rfl rfl,?_⟩
   have h:=h.o [3,0,1,2,4,5,6,7,8] 9;refine q9r h hb3 hl3 ?_
   cases hu:upR s.now s3 with
   | error e=>
    rw [hu] at k;exact fun H' he h=>k Q _ he (Sub.refl Q) (h.o [5] 8)
   | ok q=>
   obtain⟨t,s4⟩:=q;intro H5 he4 hb4 hl4 h;refine⟨_,rfl,?_⟩;refine h.st 1 rfl rfl ?_;intro H6 h;exact main t s4 b4 H6 hu hb4 hl4 (h.o [0,6,1,4,5,7,8,2,3] 9)
 ·rw [if_pos he] at k;exact k Q _ he (Sub.refl Q) (h.o [5] 8)
end
end Go.Proofs.YtfmkddccnjidmaaGreatDoor
namespace Go.Nm
structure PAg where
 rows:List En
 sts:List (Option Str)
 fls:FM
def agsR (s0:Sta):Nat→Rd PAg
 | 0,r=>.ok (⟨s0.rows,s0.sts,[]⟩,r)
 | n+1,r=>match agsR s0 n r with
  | .error e=>.error e
  | .ok (x,r1)=>match q1u r1 with
   | .error e=>.error e
   | .ok (a,r2)=>match agtR { s0 with rows:=x.rows,sts:=x.sts } a r2 with
    | .error e=>.error e
    | .ok (y,r3)=>.ok (⟨y.1,x.sts.set a.toNat (some y.2.2),mset a y.2.1 x.fls⟩,r3)
def q55 (most:Int):Nat→Rd CM
 | 0,r=>.ok ([],r)
 | n+1,r=>match q55 most n r with
  | .error e=>.error e
  | .ok (m,r1)=>match q8u r1 with
   | .error e=>.error e
   | .ok (o,r2)=>if (setS most m o.1 o.2).2≠0 then .error (setS most m o.1 o.2).2 else .ok ((setS most m o.1 o.2).1,r2)
def q4g:Nat→Rd (List Ot)
 | 0,r=>.ok ([],r)
 | n+1,r=>match q4g n r with
  | .error e=>.error e
  | .ok (l,r1)=>match q8u r1 with
   | .error e=>.error e
   | .ok (o,r2)=>.ok (l++[o],r2)
def q5y (c:Cfg)(bs:List Int):Except Int Sta:=match upR 4611686018427387903 ⟨0,bs⟩ with
 | .error e=>.error e
 | .ok (now,r1)=>match upR 1099511627776 r1 with
  | .error e=>.error e
  | .ok (boots,r2)=>match upR 1099511627776 r2 with
   | .error e=>.error e
   | .ok (sunk,r3)=>match upR now r3 with
    | .error e=>.error e
    | .ok (moment,r4)=>match q7h r4 with
     | .error e=>.error e
     | .ok (value,r5)=>match q23 64 r5 with
      | .error e=>.error e
      | .ok (n,r6)=>match agsR { newS c with now:=now,boots:=boots,sunk:=sunk } n.toNat r6 with
       | .error e=>.error e
       | .ok (x,r7)=>if ¬(moment - c.lag≤value∧value≤moment) then .error 11 else match q23 1024 r7 with
        | .error e=>.error e
        | .ok (m,r8)=>match q55 c.cells m.toNat r8 with
         | .error e=>.error e
         | .ok (cm,r9)=>match numR r9 with
          | .error e=>.error e
          | .ok (k,r10)=>match q4g k.toNat r10 with
           | .error e=>.error e
           | .ok (kept,r11)=>if (q2f r11).e≠0 then .error (q2f r11).e else
            .ok ⟨c,now,boots,sunk,x.rows,⟨c.lag,moment,value,x.fls⟩,cm,x.sts,kept⟩
def qg1 (c:Cfg)(bs:List Int):Except Int Sta:=if cfgR c=false then .error 11 else match q5y c bs with
 | .error _=>.error 10
 | .ok s=>if stB s=bs then .ok s else .error 10
end Go.Nm
namespace Go.Proofs.YtfmkddccnjidmaaGreatDoor
open Go.Nm
section
variable {F L:List Assn} {H:Heap} {K KP:Value→Heap→Prop} {Q Q':Assn} {sb:Nat} {s:Sta}
theorem MSet_err {ms:MS}{mb rb ab:Nat}{now value:Int}(hn:isT now)(hl:1≤ms.lag∧ms.lag≤1099511627776)(hv:¬(now - ms.lag≤value∧value≤now))(h:SatL H (Ma.markC mb rb ms::F))(k:K (I64 11) H) :
  CF 46 #[PA mb 0,I64 now,I64 value,.map (some ab)] H K:=by
 refine q7q.call ?_;unfold q7q.code;have e1:i64.wrap (now - ms.lag)=now - ms.lag:=w64 (by omega) (by omega);refine⟨_,Ma.isTime_spec,fun _=>trivial,_,fun _=>h.rd 0 rfl _,?_⟩
 rw [e1,z5m hn];refine⟨fun _=>k,fun hf=>?_⟩
 simp only [Bool.not_true,Bool.false_or,z5g,z58] at hf;exact absurd ⟨by omega,by omega⟩ hv
theorem qvc (h:SatL H (stA Q sb s::F))(k:∀hb c0 H',(∃p:SAd,p.hb=hb∧SatL H' (cellsA c0 [PA hb 0] 112::cellsA sb (q46 s p) 115::Ro.rollC p.rb p.rm s.cfg.agents::Ro.mapE p.rm s.rows::Ma.markC p.mb p.mm s.ms::Ma.mapF p.mm s.ms.m::shC p.hb p.hm s.cfg.cells::mapC p.hm s.cm::strmA Q p.tm s.sts::slA 64 74 p.ka s.kept.length p.kc (flat encO s.kept)::F))→K (.func (.func 127) #[] #[PA c0 0]) H') :
  CF 21 #[PA sb 0] H K:=by
 obtain⟨p,h⟩:=q0f.1 h;refine qii.call ?_;unfold qii.code;refine⟨_,h.rd 0 rfl _,?_⟩;refine qgt h fun c0 H' h=>⟨_,_,rfl,?_⟩
 exact k p.hb c0 H' ⟨p,rfl,h⟩
end
end Go.Proofs.YtfmkddccnjidmaaGreatDoor
namespace Go.Nm
structure AgsOk (s0:Sta)(x:PAg):Prop where
 rows:q3u x.rows
 len:x.sts.length=64
 sts:∀st,some st∈x.sts→qkv s0.cfg st
 reg:∀k:Nat,(∃st:Str,x.sts[k]?=some (some st))↔∃e:En,x.rows[k]?=some e∧0 < e.epoch
 fls:∀p∈x.fls,isAg p.1∧isT p.2.t∧p.2.t≤s0.now
 nd:(q03 x.fls).Nodup
theorem z42 {x a b:Int}(h:inM x a b=true):a≤x∧x≤b:=by
 simp only [inM,z56,z52] at h; exact h
theorem qg2 {m v:Int}{s s':RS}(h:upR m s=.ok (v,s')):0≤v∧v≤m:=by
 unfold upR at h
 cases e:q1u s with
 | error e'=>rw [e] at h; cases h
 | ok q=>
  obtain⟨u,s1⟩:=q;rw [e] at h;dsimp only at h
  split at h
  ·rename_i h0
   cases h
   exact z42 h0
  ·cases h
theorem longR_wf {v:Int}{s s':RS}(h:q1u s=.ok (v,s')):wf64 v:=by
 rw [(q5a h).2.1]; exact i64in _
theorem strR_ok {c:Cfg}{s s':RS}{st:Str}(ok:qde c)(h:strR c s=.ok (st,s')):qkv c st:=by
 unfold strR at h
 cases h1:q7h s with
 | error e=>rw [h1] at h; cases h
 | ok q=>
 obtain⟨last,s1⟩:=q;rw [h1] at h;dsimp only at h
 split at h
 ·cases h
 rename_i hin;have hin:=z42 (by simpa using hin);unfold qlu at h
 cases h2:numR s1 with
 | error e=>rw [h2] at h; cases h
 | ok q=>
 obtain⟨hd,s2⟩:=q;rw [h2] at h;dsimp only at h
 cases h3:q1u s2 with
 | error e=>rw [h3] at h; cases h
 | ok q=>
 obtain⟨streak,s3⟩:=q;have hsw:=longR_wf h3;rw [h3] at h;dsimp only at h
 cases h4:q23 8 s3 with
 | error e=>rw [h4] at h; cases h
 | ok q=>
 obtain⟨n,s4⟩:=q;rw [h4] at h;dsimp only at h
 cases h5:qc6 n.toNat s4 with
 | error e=>rw [h5] at h; cases h
 | ok q=>
 obtain⟨l,s5⟩:=q;rw [h5] at h;dsimp only at h;unfold qph at h
 split at h
 ·cases h
 rename_i hl;have hl:=Decidable.not_not.1 hl
 cases h6:q1u s5 with
 | error e=>rw [h6] at h; cases h
 | ok q=>
 obtain⟨next,s6⟩:=q;rw [h6] at h;dsimp only at h
 split at h
 ·cases h
 rename_i hn
 cases h7:q23 256 s6 with
 | error e=>rw [h7] at h; cases h
 | ok q=>
 obtain⟨m,s7⟩:=q;rw [h7] at h;dsimp only at h;have hg0:qv8 c.hold (⟨next,c.hold,[]⟩:HS Pv):=⟨⟨by show 0≤next; omega,ok.hd.1,ok.hd.2,⟨by simp [q4n],fun p hp=>absurd hp (by simp)⟩⟩,rfl,by show next≤_; omega,fun p hp=>absurd hp (by simp)⟩
 cases h8:q5s ⟨next,c.hold,[]⟩ m.toNat s7 with
 | error e=>rw [h8] at h; cases h
 | ok q=>
 obtain⟨hs,s8⟩:=q;rw [h8] at h
 cases h
 have g:=qec hg0 h8;unfold wf64 at hsw;exact⟨⟨hl.1,hl.2.2,hl.2.1,hsw.2⟩,rfl,rfl,g.ok,g.most,g.next,g.rows,hin⟩
theorem agtR_ok {s0:Sta}{x:PAg}{a:Int}{r r':RS}{y:List En × Fl × Str}(ok:qde s0.cfg)(hnow:isT s0.now)(g:AgsOk s0 x)(h:agtR { s0 with rows:=x.rows,sts:=x.sts } a r=.ok (y,r')) :
  AgsOk s0 ⟨y.1,x.sts.set a.toNat (some y.2.2),mset a y.2.1 x.fls⟩:=by
 unfold agtR at h
 cases h1:q1u r with
 | error e=>rw [h1] at h; cases h
 | ok q=>
 obtain⟨ep,s1⟩:=q;rw [h1] at h;dsimp only at h
 cases h2:q1u s1 with
 | error e=>rw [h2] at h; cases h
 | ok q=>
 obtain⟨bt,s2⟩:=q;rw [h2] at h;dsimp only at h
 cases h3:q1u s2 with
 | error e=>rw [h3] at h; cases h
 | ok q=>
 obtain⟨tm,s3⟩:=q;rw [h3] at h;dsimp only at h
 split at h
 ·cases h
 rename_i hs;have hs:(setR s0.cfg.agents x.rows a ⟨ep,bt,tm⟩).2=0:=by simpa using hs
 obtain⟨a1,a2,a3,a4,a5⟩:=qsb hs;have hrok:=Go.Nm.setR_ok (most:=s0.cfg.agents) g.rows a ⟨ep,bt,tm⟩
 cases h4:upR s0.now s3 with
 | error e=>rw [h4] at h; cases h
 | ok q=>
 obtain⟨t,s4⟩:=q;have ht:=qg2 h4;rw [h4] at h;dsimp only at h
 cases h5:flR s0.cfg t s4 with
 | error e=>rw [h5] at h; cases h
 | ok q=>
 obtain⟨⟨fl,st⟩,s5⟩:=q;rw [h5] at h
 cases h
 unfold flR at h5
 cases h6:numR s4 with
 | error e=>rw [h6] at h5; cases h5
 | ok q=>
 obtain⟨v,s6⟩:=q;rw [h6] at h5;dsimp only at h5
 cases h7:strR s0.cfg s6 with
 | error e=>rw [h7] at h5; cases h5
 | ok q=>
 obtain⟨st',s7⟩:=q;rw [h7] at h5
 cases h5
 have hst:=strR_ok ok h7;have hlt:a.toNat < x.sts.length:=by rw [g.len]; omega
 have hltr:a.toNat < x.rows.length:=by rw [g.rows.len]; omega
 refine⟨hrok,by show (x.sts.set _ _).length=64; rw [List.length_set,g.len],fun z hz=>?_,fun j=>?_,fun p hp=>?_,q7u g.nd⟩
 ·rcases z7s hz with hz|hz
  ·exact g.sts z hz
  ·cases hz; exact hst
 ·dsimp only;rw [a4]
  by_cases e:j=a.toNat
  ·subst e;rw [List.getElem?_set_self hlt,List.getElem?_set_self hltr];exact⟨fun _=>⟨_,rfl,by show 0 < ep; dsimp only at a3; omega⟩,fun _=>⟨_,rfl⟩⟩
  ·rw [List.getElem?_set_ne (by omega),List.getElem?_set_ne (by omega)];exact g.reg j
 ·rcases q45 hp with rfl|hp
  ·have h0:=hnow.2;exact⟨⟨by show 0≤a; omega,by show a < 64; omega⟩,⟨ht.1,by show t≤_; omega⟩,ht.2⟩
  ·exact g.fls p hp
theorem qvd {s0:Sta}(ok:q2z s0):∀{n:Nat} {r r':RS} {x:PAg},agsR s0 n r=.ok (x,r')→AgsOk s0 x
 | 0,r,r',x,h=>by
  cases h
  exact⟨ok.rows,ok.len,ok.sts,ok.reg,fun p hp=>absurd hp (by simp),by simp⟩
 | n+1,r,r',x,h=>by
  unfold agsR at h
  cases h1:agsR s0 n r with
  | error e=>rw [h1] at h; cases h
  | ok q=>
  obtain⟨x1,r1⟩:=q;rw [h1] at h;dsimp only at h
  cases h2:q1u r1 with
  | error e=>rw [h2] at h; cases h
  | ok q=>
  obtain⟨a,r2⟩:=q;rw [h2] at h;dsimp only at h
  cases h3:agtR { s0 with rows:=x1.rows,sts:=x1.sts } a r2 with
  | error e=>rw [h3] at h; cases h
  | ok q=>
  obtain⟨y,r3⟩:=q;rw [h3] at h
  cases h
  exact agtR_ok ok.cfg ok.now (qvd ok h1) h3
theorem iRes_b {s:RS}(hb:q04 s.bs):q04 (iRes s).2.bs:=q10 hb
theorem qpi {s s':RS}{o:Ot}(hb:q04 s.bs)(h:q8u s=.ok (o,s')):WC o.2∧q43 o.2=true∧(0≤o.1.win∧o.1.win≤4611686018427387903)∧q04 s'.bs:=by
 unfold q8u at h
 cases e:q7h s with
 | error e'=>rw [e] at h; cases h
 | ok q=>
  obtain⟨w,s1⟩:=q;rw [e] at h;dsimp only at h;have hb1:q04 s1.bs:=by rw [(q5a e).1]; exact iRes_b hb
  have t1:=q39 (m:=s1.bs.length) hb1;have t2:=q39 (m:=(tRes s1.bs.length s1).2.bs.length) t1.1
  split at h
  ·cases h
  split at h
  ·cases h
  rename_i hx
  split at h
  ·cases h
  rename_i hc
  cases h
  have hx:(!(q8l (strB (tRes s1.bs.length s1).1)).2.2 || !inM w 0 4611686018427387903)=false:=by simpa only [Bool.not_eq_true] using hx
  rw [z5g,z67] at hx;exact⟨z3d t2.2,qrp (by simpa using hc),z42 (by simpa only [z67] using hx.2),t2.1⟩
structure CelOk (most:Int)(m:CM):Prop where
 sh:ShOk most m
 win:∀p∈m,0≤p.1.win∧p.1.win≤4611686018427387903
theorem qg3 {most:Int}(h0:ShOk most []):∀{n:Nat} {r r':RS} {m:CM},q04 r.bs→q55 most n r=.ok (m,r')→CelOk most m∧q04 r'.bs
 | 0,r,r',m,hb,h=>by
  cases h
  exact⟨⟨h0,fun p hp=>absurd hp (by simp)⟩,hb⟩
 | n+1,r,r',m,hb,h=>by
  unfold q55 at h
  cases h1:q55 most n r with
  | error e=>rw [h1] at h; cases h
  | ok q=>
  obtain⟨m1,r1⟩:=q;rw [h1] at h;dsimp only at h;have ih:=qg3 h0 hb h1
  cases h2:q8u r1 with
  | error e=>rw [h2] at h; cases h
  | ok q=>
  obtain⟨o,r2⟩:=q;rw [h2] at h;dsimp only at h;have ho:=qpi ih.2 h2
  split at h
  ·cases h
  rename_i hs
  cases h
  refine⟨⟨setS_ok ih.1.sh ho.1 (by unfold wf64; omega),fun p hp=>?_⟩,ho.2.2.2⟩
  unfold setS at hp
  split at hp
  ·exact ih.1.win p hp
  split at hp
  ·exact ih.1.win p hp
  split at hp
  ·exact ih.1.win p hp
  rcases q45 hp with rfl|hp
  ·exact ho.2.2.1
  ·exact ih.1.win p hp
theorem qis:∀{n:Nat} {r r':RS} {l:List Ot},q04 r.bs→q4g n r=.ok (l,r')→(∀o∈l,WC o.2)∧q04 r'.bs
 | 0,r,r',l,hb,h=>by
  cases h
  exact⟨fun o ho=>absurd ho (by simp),hb⟩
 | n+1,r,r',l,hb,h=>by
  unfold q4g at h
  cases h1:q4g n r with
  | error e=>rw [h1] at h; cases h
  | ok q=>
  obtain⟨l1,r1⟩:=q;rw [h1] at h;dsimp only at h;have ih:=qis hb h1
  cases h2:q8u r1 with
  | error e=>rw [h2] at h; cases h
  | ok q=>
  obtain⟨o,r2⟩:=q;rw [h2] at h
  cases h
  have ho:=qpi ih.2 h2;refine⟨fun x hx=>?_,ho.2.2.2⟩
  rcases z6g.1 hx with hx|hx
  ·exact ih.1 x hx
  ·rw [z60] at hx; rw [hx]; exact ho.1
end Go.Nm
namespace Go.Proofs.YtfmkddccnjidmaaGreatDoor
open Go.Nm
section
variable {F L:List Assn} {H:Heap} {K KP:Value→Heap→Prop} {Q Q':Assn} {sb:Nat} {s:Sta}
theorem qsd {b1 b2:Nat}{e v1:Int}{v:Option Addr}{KQ:FrameMode→Heap→Prop}(he:e≠0)(h:SatL H (cellsA b1 [.pointer v] 27::cellsA b2 [I64 v1] 28::F))
  (k:∀H',SatL H' (cellsA b1 [.pointer none] 27::cellsA b2 [I64 10] 28::F)→KQ (panM (pnV e) true) H'):DefQ Tryz.prog 37 [(PA b1 0),(PA b2 0)] (panM (pnV e) false) H KQ:=by
 have hd:DefQ Tryz.prog 37 [(PA b1 0),(PA b2 0)] (panM (pnV e) false) H fun u'' H'=>u''=panM (pnV e) true∧SatL H' (cellsA b1 [.pointer none] 27::cellsA b2 [I64 10] 28::F):=by
  refine q22.defq (.inr ⟨rfl,rfl⟩) ?_;unfold q22.code;refine qkq ⟨_,rfl,?_⟩;intro Jn hJ;refine⟨fun _=>?_,fun hc=>absurd hc (by simpa using he)⟩
  refine h.st 0 rfl rfl ?_;intro H2 h;refine h.st 1 rfl rfl ?_;intro H3 h;refine hJ _ ?_;unfold q22.r1;exact h
 intro w hw;refine (hd w hw).mono fun e' u' w' hh=>?_
 cases e' <;> simp only at hh ⊢
 exact⟨hh.1,hh.2.1▸k _ hh.2.2⟩
theorem z0d {b1 b2:Nat}{KQ:FrameMode→Heap→Prop}(h:SatL H F)
  (k:∀H',SatL H' F→KQ .returning H'):DefQ Tryz.prog 37 [(PA b1 0),(PA b2 0)] .returning H KQ:=by
 have hd:DefQ Tryz.prog 37 [(PA b1 0),(PA b2 0)] .returning H fun u'' H'=>u''=.returning∧SatL H' F:=by
  refine q22.defq (.inl ⟨rfl,rfl,rfl⟩) ?_;unfold q22.code;refine qkp ⟨_,rfl,?_⟩;intro Jn hJ;refine⟨fun hc=>absurd hc (by simp),fun _=>hJ _ ?_⟩
  unfold q22.r1;exact h
 intro w hw;refine (hd w hw).mono fun e' u' w' hh=>?_
 cases e' <;> simp only at hh ⊢
 exact⟨hh.1,hh.2.1▸k _ hh.2.2⟩
end
end Go.Proofs.YtfmkddccnjidmaaGreatDoor
namespace Go.Nm
theorem uRes_lt2 {s:RS}(hb:q04 s.bs)(h:(uRes s).2.e=0):(uRes s).2.bs.length+1≤s.bs.length:=by
 unfold uRes at h ⊢
 split at h
 ·rename_i h0; exact absurd h h0
 ·rename_i h0;rw [if_neg h0]
  split at h
  ·rename_i u n e;have:=Go.Nm.rdU_size hb e;simp only [e];rw [z5u]; omega
  ·simp at h
  ·simp at h
theorem qxa {s s':RS}{o:Ot}(hb:q04 s.bs)(h:q8u s=.ok (o,s')):s'.bs.length+1≤s.bs.length:=by
 unfold q8u at h
 cases e:q7h s with
 | error e'=>rw [e] at h; cases h
 | ok q=>
  obtain⟨v,s1⟩:=q;rw [e] at h;dsimp only at h;have h0:=q5a e;have h1:s1.bs.length+1≤s.bs.length:=by
   rw [h0.1];exact uRes_lt2 hb h0.2.2
  have h2:=(q5p s1 s1.bs.length).1;have h3:=(q5p (tRes s1.bs.length s1).2 (tRes s1.bs.length s1).2.bs.length).1
  split at h
  ·cases h
  split at h
  ·cases h
  split at h
  ·cases h
  ·cases h; omega
theorem qit:∀{n:Nat} {r r':RS} {l:List Ot},q04 r.bs→q4g n r=.ok (l,r')→l.length=n∧n+r'.bs.length≤r.bs.length
 | 0,r,r',l,hb,h=>by
  cases h
  exact⟨rfl,by omega⟩
 | n+1,r,r',l,hb,h=>by
  unfold q4g at h
  cases h1:q4g n r with
  | error e=>rw [h1] at h; cases h
  | ok q=>
  obtain⟨l1,r1⟩:=q;rw [h1] at h;dsimp only at h;have ih:=qit hb h1;have hb1:=(qis hb h1).2
  cases h2:q8u r1 with
  | error e=>rw [h2] at h; cases h
  | ok q=>
  obtain⟨o,r2⟩:=q;rw [h2] at h
  cases h
  have:=qxa hb1 h2;rw [z51];simp only [z59,z5t];omega
theorem qse {s:RS}{e:Int}:∀{n j:Nat},q4g j s=.error e→j≤n→q4g n s=.error e
 | 0,j,h,hj=>by
  obtain rfl:j=0:=by omega
  exact h
 | n+1,j,h,hj=>by
  rcases z5r n j with h1|h1
  ·obtain rfl:j=n+1:=by omega
   exact h
  ·unfold q4g;rw [qse h h1]
end Go.Nm
namespace Go.Proofs.YtfmkddccnjidmaaGreatDoor
open Go.Nm
section
variable {F L:List Assn} {H:Heap} {K KP:Value→Heap→Prop} {Q Q':Assn} {sb:Nat} {s:Sta}
def ql5 (Q:Assn)(F:List Assn)(K:KT):Except Int Sta→Prop
 | .ok s=>∀Q' sb H',Sub Q Q'→SatL H' (Q'::stA Q' sb s::F)→K (.tuple #[PA sb 0,I64 0]) H'
 | .error e=>∀Q' H',Sub Q Q'→SatL H' (Q'::F)→K (.tuple #[.pointer none,I64 e]) H'
theorem PPan {b1 b2:Nat}{e v1:Int}{v:Option Addr}(ke:ql5 Q F K (.error 10))(he:e≠0)(hs:Sub Q Q')(h:SatL H (cellsA b1 [.pointer v] 27::cellsA b2 [I64 v1] 28::Q'::F)) :
  memN 37 X.calls=true∧DefQ Tryz.prog 37 [(PA b1 0),(PA b2 0)] (panM (pnV e) false) H fun u24 H_64=>u24=panM (pnV e) true∧
   ∃res10,q00 H_64 b1 0=some (.pointer res10)∧∃res11,q00 H_64 b2 0=some (I64 res11)∧K (.tuple #[(.pointer res10),(I64 res11)]) H_64:=
 ⟨rfl,qsd he h fun H2 h=>⟨rfl,_,h.rd 0 rfl _,_,h.rd 1 rfl _,ke Q' _ hs h.tl.tl⟩⟩
theorem qsf (k:Ky)(c:Cl):q04 (cbB k c):=q0a (q8i _) (qrf _)
theorem z43 (a:Int)(e:En)(fl:Fl)(st:Str):q04 (agB a e fl st):=
 q0a (q0a (q0a (q0a (q0a (q3a _) (q8i _)) (q3a _)) (q19 fun _ _=>q3a _)) (q3a _)) (q19 fun _ _=>q0a (q3a _) (qrl _))
theorem z0e (s:Sta)(p:Int × En):q04 (agOf s p):=by
 unfold agOf
 split
 ·exact z43 _ _ _ _
 ·exact fun x hx=>by cases hx
theorem qsg (s:Sta):q04 (stB s):=
 q0a (q0a (q0a (q0a (q0a (q0a (q0a (q3a _) (q8i _)) (q3a _)) (q19 fun _ _=>z0e _ _)) (q3a _)) (q19 fun _ _=>qsf _ _)) (q3a _)) (q19 fun _ _=>qsf _ _)
theorem strB_inj {xs ys:List Int}(hx:q04 xs)(hy:q04 ys)(h:(strB xs).toList=(strB ys).toList):xs=ys:=by
 have h2:xs.map (fun n=>UInt8.ofNat n.toNat)=ys.map (fun n=>UInt8.ofNat n.toNat):=by
  rw [← strOfNums_data xs,← strOfNums_data ys];have e:∀b:ByteArray,b.data.toList=b.toList:=fun b=>Eq.symm (ByteArray.toList_eq b)
  rw [e,e];exact h
 have h3:=congrArg (List.map fun b:UInt8=>(b.toNat:Int)) h2
 have e:∀l:List Int,q04 l→(l.map fun n=>UInt8.ofNat n.toNat).map (fun b:UInt8=>(b.toNat:Int))=l:=by
  intro l hl;apply z6n (by simp);intro i h1 h2;simp only [z6o];exact qi9 hl i h2
 rwa [e _ hx,e _ hy] at h3
set_option maxHeartbeats 8000000 in
theorem z0f {rb b1 b2 b3:Nat}{s1:Sta}{bs:List Int}{ba:Option Addr}{bc:Nat}{kn r1:Int}{r:RS}{Q1:Assn}(hsub:Sub Q Q1)
  (hA:∀H,SatL H F→rdS H ba (bs.map U8)) (hA2:ba=none∨∃k o,ba=some ⟨k,o,none⟩) (hkn:0≤kn∧kn < 18446744073709551616) (hb:q04 r.bs) (hl:r.bs.length≤1000000000) (hbs:q04 bs)
  (hgood:∀l r',q4g kn.toNat r=.ok (l,r')→(q2f r').e=0→q2z { s1 with kept:=l }∧qv7 { s1 with kept:=l }∧l.length≤50000)
  (ke:(∀l r',q4g kn.toNat r=.ok (l,r')→(q2f r').e=0→stB { s1 with kept:=l }=bs→False)→ql5 Q F K (.error 10))
  (kok:∀l r',q4g kn.toNat r=.ok (l,r')→(q2f r').e=0→stB { s1 with kept:=l }=bs→ql5 Q F K (.ok { s1 with kept:=l }))
  (h:SatL H (crdA rb r::Q1::stA Q1 sb { s1 with kept:=[] }::cellsA b1 [PA sb 0] 27::cellsA b2 [I64 0] 28::cellsA b3 [PA rb 0] 109::F)) :
  ∃(Inv2:Int→Heap→Prop) (mu2:Int→Heap→Nat),Inv2 kn H∧
   ∀(n:Int),∀H_54:Heap,Inv2 n H_54→q0x.l2 ba bs.length bc K b1 b2 r1 b3 Inv2 mu2 n H_54:=by
 refine⟨fun n H'=>∃(j:Nat) (l:List Ot) (r':RS),n=kn - j∧(j:Int)≤kn∧q4g j r=.ok (l,r')∧
  SatL H' (crdA rb r'::Q1::stA Q1 sb { s1 with kept:=l }::cellsA b1 [PA sb 0] 27::cellsA b2 [I64 0] 28::cellsA b3 [PA rb 0] 109::F),
  fun n _=>n.toNat,⟨0,[],r,by omega,hkn.1,rfl,h⟩,?_⟩
 rintro n H1 ⟨j,l,r',rfl,hj,hk,h⟩;have hlt:=qit hb hk;have hok:=qis hb hk;unfold q0x.l2;refine⟨fun hc=>?_,fun hc=>?_⟩
 ·have hc:=z4z hc;refine⟨_,h.rds 5 rfl rfl,?_⟩;refine qs8 h hok.2 (by omega) ?_;have hk1:q4g (j+1) r=match q8u r' with|.error e=>.error e|.ok (o,r2)=>.ok (l++[o],r2):=by
   rw [q4g,hk] <;> rfl
  cases hr:q8u r' with
  | error e=>
   rw [hr] at hk1;exact fun H' he h=>PPan (ke fun l r1 h1 _ _=>by rw [qse hk1 (by omega)] at h1; cases h1) he hsub (h.o [2,3,0] 5)
  | ok q=>
  obtain⟨o,r2⟩:=q;rw [hr] at hk1;intro H2 he2 hb2 hl2 h;refine⟨_,_,_,_,_,_,_,_,_,_,rfl,?_⟩;refine h.al fun b7 _ h=>?_
  refine h.al fun b8 _ h=>?_
  refine h.st 1 rfl rfl ?_;intro H3 h;refine h.sta 0 rfl rfl fun H4 h=>?_
  have h:=h.o [4,0,1,2,3,5,6,7] 8;obtain⟨p,h⟩:=q0f.1 h;refine⟨_,h.rd 13 rfl _,_,h.rd 13 rfl _,q02 ⟨_,_,_,h.rd 0 rfl _,_,_,h.rds 10 rfl rfl,_,_,_,_,_,_,_,_,h.rda 9 rfl,?_⟩⟩;refine h.al fun b9 _ h=>⟨h.rd 1 rfl _,h.rd 14 rfl _,h.rd 14 rfl _,?_⟩
  refine h.append (m:=1) (ws:=encO o) sl86 9 rfl (h.ce_rd 0 rfl) rfl (q7v _) (by show (l.length+1)*600≤_; omega) (by show l.length+1≤_; omega) fun a6 c6 H5 h=>⟨_,_,_,rfl,h.rd 14 rfl _,q02 ?_⟩
  refine h.st 1 rfl rfl ?_;intro H6 h;have hw:u64.wrap (kn - (j:Int) - 1)=kn - ((j+1:Nat):Int):=by rw [u64e]; omega
  rw [hw];refine⟨⟨j+1,l++[o],r2,rfl,by omega,hk1,?_⟩,by dsimp only; omega⟩;have e4:flat encO (l++[o])=flat encO l++encO o:=by rw [q0i]; simp [flat]
  have h:=h.o [1,2,3,4,5,6,7,8,9,12,13,14,15,16] 17;have h:SatL H6 (stA Q1 sb { s1 with kept:=l++[o] }::_):=q0f.2 ⟨{ p with ka:=a6,kc:=c6 },by
   simp only [q46,z51,z6x,e4];exact h⟩
  exact h.o [1,2,0,3,4,5] 6
 ·have hge:=z54 hc;have hjn:j=kn.toNat:=by omega
  subst hjn;refine⟨_,h.rd 5 rfl _,?_⟩;refine qp0 h fun H2 h=>⟨_,rfl,?_⟩
  refine q1v (fun he=>⟨rfl,_,h.rd 3 rfl _,?_⟩) fun he=>PPan (ke fun l2 r2 h1 h2 _=>by rw [hk] at h1; cases h1; exact he h2) he hsub (h.o [3,4,1] 6)
  obtain⟨gok,gser,gk⟩:=hgood l r' hk he;have h:=h.o [1,2,3,4,5] 6;refine qeb gok gser gk h fun a c H3 h=>⟨_,_,_,rfl,?_⟩
  have hsA:a=none∨∃k o,a=some ⟨k,o,none⟩:=by
   rcases (q3r (F:=star _) h).2 with ⟨h2,_⟩|⟨b,pre,post,e',fr,h2,_⟩
   ·exact .inl h2
   ·exact .inr ⟨_,_,h2⟩
  refine qkf hsA hA2 (h.sl_rd 0 rfl) (hA _ (h.o [] 6)) ⟨_,rfl,?_⟩;intro Jn hJ;refine⟨fun hc=>?_,fun hc=>?_⟩
  ·refine PPan (e:=10) (ke fun l2 r2 h1 h2 h3=>?_) (by decide) hsub (h.o [3,4,1] 6)
   rw [hk] at h1; cases h1;rw [h3] at hc;simp at hc
  ·refine hJ _ ?_;have heq:stB { s1 with kept:=l }=bs:=strB_inj (qsg _) hbs (by simpa using hc);unfold q0x.r1;refine⟨_,h.rd 3 rfl _,?_⟩;refine h.st 3 rfl rfl ?_;intro H4 h;refine h.st 4 rfl rfl ?_;intro H5 h;refine⟨rfl,z0d (h.o [3,4,1,2] 6) fun H6 h=>⟨rfl,_,h.rd 0 rfl _,_,h.rd 1 rfl _,kok l r' hk he heq Q1 sb _ hsub h.tl.tl⟩⟩
end
end Go.Proofs.YtfmkddccnjidmaaGreatDoor
namespace Go.Nm
theorem qiu {most:Int}(h0:ShOk most []):∀{n:Nat} {r r':RS} {m:CM},q04 r.bs→q55 most n r=.ok (m,r')→n+r'.bs.length≤r.bs.length
 | 0,r,r',m,hb,h=>by
  cases h
  omega
 | n+1,r,r',m,hb,h=>by
  unfold q55 at h
  cases h1:q55 most n r with
  | error e=>rw [h1] at h; cases h
  | ok q=>
  obtain⟨m1,r1⟩:=q;rw [h1] at h;dsimp only at h;have ih:=qiu h0 hb h1;have hb1:=(qg3 h0 hb h1).2
  cases h2:q8u r1 with
  | error e=>rw [h2] at h; cases h
  | ok q=>
  obtain⟨o,r2⟩:=q;rw [h2] at h;dsimp only at h;have:=qxa hb1 h2
  split at h
  ·cases h
  ·cases h
   omega
theorem ql6 {most:Int}{s:RS}{e:Int}:∀{n j:Nat},q55 most j s=.error e→j≤n→q55 most n s=.error e
 | 0,j,h,hj=>by
  obtain rfl:j=0:=by omega
  exact h
 | n+1,j,h,hj=>by
  rcases z5r n j with h1|h1
  ·obtain rfl:j=n+1:=by omega
   exact h
  ·unfold q55;rw [ql6 h h1]
end Go.Nm
namespace Go.Proofs.YtfmkddccnjidmaaGreatDoor
open Go.Nm
section
variable {F L:List Assn} {H:Heap} {K KP:Value→Heap→Prop} {Q Q':Assn} {sb:Nat} {s:Sta}
set_option maxHeartbeats 8000000 in
theorem qve {rb b1 b2 b3:Nat}{s1:Sta}{bs:List Int}{ba:Option Addr}{bc:Nat}{n r1:Int}{r:RS}{Q1:Assn}(hsub:Sub Q Q1)
  (hA:∀H,SatL H F→rdS H ba (bs.map U8)) (hA2:ba=none∨∃k o,ba=some ⟨k,o,none⟩) (hn:0≤n∧n≤1024) (h0:ShOk s1.cfg.cells []) (hb:q04 r.bs) (hl:r.bs.length≤1000000000) (hbs:q04 bs)
  (hgood:∀m r9 k r10 l r',q55 s1.cfg.cells n.toNat r=.ok (m,r9)→numR r9=.ok (k,r10)→q4g k.toNat r10=.ok (l,r')→(q2f r').e=0→
   q2z { s1 with cm:=m,kept:=l }∧qv7 { s1 with cm:=m,kept:=l }∧l.length≤50000)
  (ke:(∀m r9 k r10 l r',q55 s1.cfg.cells n.toNat r=.ok (m,r9)→numR r9=.ok (k,r10)→q4g k.toNat r10=.ok (l,r')→(q2f r').e=0→stB { s1 with cm:=m,kept:=l }=bs→False)→ql5 Q F K (.error 10))
  (kok:∀m r9 k r10 l r',q55 s1.cfg.cells n.toNat r=.ok (m,r9)→numR r9=.ok (k,r10)→q4g k.toNat r10=.ok (l,r')→(q2f r').e=0→stB { s1 with cm:=m,kept:=l }=bs→
   ql5 Q F K (.ok { s1 with cm:=m,kept:=l }))
  (h:SatL H (crdA rb r::Q1::stA Q1 sb { s1 with cm:=[],kept:=[] }::cellsA b1 [PA sb 0] 27::cellsA b2 [I64 0] 28::cellsA b3 [PA rb 0] 109::F)) :
  ∃(Inv1:Int→Heap→Prop) (mu1:Int→Heap→Nat),Inv1 0 H∧
   ∀(t:Int),∀H':Heap,Inv1 t H'→q0x.l3 ba bs.length bc K b1 b2 r1 b3 n Inv1 mu1 t H':=by
 refine⟨fun t H'=>∃(j:Nat) (m:CM) (r':RS),t=j∧(j:Int)≤n∧q55 s1.cfg.cells j r=.ok (m,r')∧
  SatL H' (crdA rb r'::Q1::stA Q1 sb { s1 with cm:=m,kept:=[] }::cellsA b1 [PA sb 0] 27::cellsA b2 [I64 0] 28::cellsA b3 [PA rb 0] 109::F),
  fun t _=>(n - t).toNat,⟨0,[],r,rfl,hn.1,rfl,h⟩,?_⟩
 rintro t H1 ⟨j,m,r',rfl,hj,hk,h⟩;have hlt:=qiu h0 hb hk;have hok:=qg3 h0 hb hk;unfold q0x.l3;refine⟨fun hc=>?_,fun hc=>?_⟩
 ·have hc:=z4z hc;refine⟨_,h.rds 5 rfl rfl,?_⟩;refine qs8 h hok.2 (by omega) ?_;have hk1:q55 s1.cfg.cells (j+1) r=match q8u r' with
    | .error e=>.error e
    | .ok (o,r2)=>if (setS s1.cfg.cells m o.1 o.2).2≠0 then .error (setS s1.cfg.cells m o.1 o.2).2 else .ok ((setS s1.cfg.cells m o.1 o.2).1,r2):=by
   rw [q55,hk] <;> rfl
  cases hr:q8u r' with
  | error e=>
   rw [hr] at hk1;exact fun H' he h=>PPan (ke fun m r9 k r10 l r1 h1 _ _ _ _=>by rw [ql6 hk1 (by omega)] at h1; cases h1) he hsub (h.o [2,3,0] 5)
  | ok q=>
  obtain⟨o,r2⟩:=q;rw [hr] at hk1;dsimp only at hk1;have hco:=qpi hok.2 hr;intro H2 he2 hb2 hl2 h;refine⟨_,_,_,_,_,_,_,_,_,_,rfl,?_⟩;refine h.al fun b7 _ h=>?_
  refine h.al fun b8 _ h=>?_
  refine h.st 1 rfl rfl ?_;intro H3 h;refine h.sta 0 rfl rfl fun H4 h=>?_
  have h:=h.o [4,0,1,2,3,5,6,7] 8;obtain⟨p,h⟩:=q0f.1 h;refine⟨_,h.rd 13 rfl _,q02 ⟨_,h.rd 0 rfl _,_,_,h.rds 10 rfl rfl,_,_,_,_,_,_,_,_,h.rda 9 rfl,?_⟩⟩;refine qz1 hok.1.1 hco.1 (h.o [5,6,0,1,2,3,4,7,8,11,12,13,14,15] 16) fun H5 h=>⟨_,rfl,?_⟩
  refine q1v (fun he=>⟨rfl,?_⟩) fun he=>PPan (ke fun m2 r9 k r10 l r1 h1 _ _ _ _=>by
   rw [if_pos he] at hk1;rw [ql6 hk1 (by omega)] at h1; cases h1) he hsub (h.o [11,12,10] 14)
  rw [if_neg (by simpa using he)] at hk1;have hw:i64.wrap ((j:Int)+1)=((j+1:Nat):Int):=by rw [w64 (by omega) (by omega)]; omega
  rw [hw];refine⟨⟨j+1,_,r2,rfl,by omega,hk1,?_⟩,by dsimp only; omega⟩;have h:=h.o [2,3,4,5,6,0,1,7,8,9,10,11,12,13] 14;have h:SatL H5 (stA Q1 sb { s1 with cm:=(setS s1.cfg.cells m o.1 o.2).1,kept:=[] }::_):=q0f.2 ⟨p,h⟩;exact h.o [1,2,0,3,4,5] 6
 ·have hge:=z54 hc;have hjn:j=n.toNat:=by omega
  subst hjn;refine⟨_,h.rds 5 rfl rfl,?_⟩;refine q8n h hok.2 (by omega) ?_
  cases hr:numR r' with
  | error e=>
   exact fun H' he h=>PPan (ke fun m2 r9 k r10 l r1 h1 h2 _ _ _=>by rw [hk] at h1; cases h1; rw [hr] at h2; cases h2) he hsub (h.o [2,3,0] 5)
  | ok q=>
  obtain⟨k,r10⟩:=q;intro H2 he2 hb2 hl2 h;have hln:r10.bs.length≤r'.bs.length:=qd8 hr;have hkr:0≤k∧k < 18446744073709551616:=by
   rw [(q5a hr).2.1];have:=qu8 hok.2;omega
  refine⟨_,rfl,?_⟩;exact z0f (s1:={ s1 with cm:=m }) hsub hA hA2 hkr hb2 (by omega) hbs (fun l r9 h1 h2=>hgood _ _ _ _ _ _ hk hr h1 h2) (fun hn=>ke fun m2 r9 k2 r11 l r1 h1 h2 h3 h4 h5=>by
   rw [hk] at h1; cases h1; rw [hr] at h2; cases h2; exact hn _ _ h3 h4 h5) (fun l r9 h1 h2 h3=>kok _ _ _ _ _ _ hk hr h1 h2 h3) h
end
end Go.Proofs.YtfmkddccnjidmaaGreatDoor
namespace Go.Nm
theorem okR_len {α:Type}{s s':RS}{x y:α}(h:okR s x=.ok (y,s')):s'.bs.length=s.bs.length:=by rw [(q5a h).1]
theorem z0g {s s':RS}{x:Pv}(h:q5x s=.ok (x,s')):s'.bs.length≤s.bs.length:=by
 unfold q5x at h
 cases h1:q1u s with
 | error e'=>rw [h1] at h; cases h
 | ok q=>
  obtain⟨a,s1⟩:=q;rw [h1] at h;dsimp only at h
  cases h2:q7h s1 with
  | error e'=>rw [h2] at h; cases h
  | ok q=>
   obtain⟨b,s2⟩:=q;rw [h2] at h;dsimp only at h;have h3:=okR_len h;have h4:=q0u h1;have h5:=q8s h2;have h6:=qrj s2;dsimp only at h3;omega
theorem qsh {hs:HS Pv}{s s':RS}{x:HS Pv}(h:qh3 hs s=.ok (x,s')):s'.bs.length≤s.bs.length:=by
 unfold qh3 at h
 (repeat' split at h) <;> first|(cases h; done)|(cases h; rename_i a b; exact z5f (z0g (by assumption)) (q0u (by assumption)))
theorem qxb {s s':RS}{x:Smp}(h:smpR s=.ok (x,s')):s'.bs.length≤s.bs.length:=by
 unfold smpR at h
 (repeat' split at h) <;> first|(cases h; done)|(cases h; exact z5f (q0u (by assumption)) (z5f (q0u (by assumption)) (z5f (q0u (by assumption)) (q0u (by assumption)))))|exact z5f (q0u (by assumption)) (z5f (q0u (by assumption)) (z5f (q0u (by assumption)) (q0u (by assumption))))
theorem qd9:∀{n:Nat} {s s':RS} {x:List Smp},qc6 n s=.ok (x,s')→s'.bs.length≤s.bs.length
 | 0,s,s',x,h=>by cases h; exact z5c _
 | n+1,s,s',x,h=>by
  unfold qc6 at h
  (repeat' split at h) <;> first|(cases h; done)|(cases h; exact z5f (qxb (by assumption)) (qd9 (by assumption)))|exact z5f (qxb (by assumption)) (qd9 (by assumption))
theorem qat {hs:HS Pv}:∀{n:Nat} {s s':RS} {x:HS Pv},q5s hs n s=.ok (x,s')→s'.bs.length≤s.bs.length
 | 0,s,s',x,h=>by cases h; exact z5c _
 | n+1,s,s',x,h=>by
  unfold q5s at h
  (repeat' split at h) <;> first|(cases h; done)|(cases h; exact z5f (qsh (by assumption)) (qat (by assumption)))|exact z5f (qsh (by assumption)) (qat (by assumption))
theorem qsi {c:Cfg}{a b:Int}{d:Bool}{l:List Smp}{s s':RS}{x:Str}(h:qph c a d b l s=.ok (x,s')):s'.bs.length≤s.bs.length:=by
 unfold qph at h
 (repeat' split at h) <;> first|(cases h; done)|(cases h; exact z5f (qat (by assumption)) (z5f (q5b (by assumption)) (q0u (by assumption))))|exact z5f (qat (by assumption)) (z5f (q5b (by assumption)) (q0u (by assumption)))
theorem qsj {c:Cfg}{a:Int}{s s':RS}{x:Str}(h:qlu c a s=.ok (x,s')):s'.bs.length≤s.bs.length:=by
 unfold qlu at h
 (repeat' split at h) <;> first|(cases h; done)|(cases h; exact z5f (qsi (by assumption)) (z5f (qd9 (by assumption)) (z5f (q5b (by assumption)) (z5f (q0u (by assumption)) (qd8 (by assumption))))))|exact z5f (qsi (by assumption)) (z5f (qd9 (by assumption)) (z5f (q5b (by assumption)) (z5f (q0u (by assumption)) (qd8 (by assumption)))))
theorem qxc {c:Cfg}{s s':RS}{x:Str}(h:strR c s=.ok (x,s')):s'.bs.length≤s.bs.length:=by
 unfold strR at h
 (repeat' split at h) <;> first|(cases h; done)|(cases h; exact z5f (qsj (by assumption)) (q8s (by assumption)))|exact z5f (qsj (by assumption)) (q8s (by assumption))
theorem z47 {c:Cfg}{t:Int}{s s':RS}{x:Fl × Str}(h:flR c t s=.ok (x,s')):s'.bs.length≤s.bs.length:=by
 unfold flR at h
 (repeat' split at h) <;> first|(cases h; done)|(cases h; exact z5f (qxc (by assumption)) (qd8 (by assumption)))|exact z5f (qxc (by assumption)) (qd8 (by assumption))
theorem qxd {s0:Sta}{a:Int}{s s':RS}{x:List En × Fl × Str}(h:agtR s0 a s=.ok (x,s')):s'.bs.length≤s.bs.length:=by
 unfold agtR at h
 (repeat' split at h) <;> first|(cases h; done)|(cases h; exact z5f (z47 (by assumption)) (z5f (q9c (by assumption)) (z5f (q0u (by assumption)) (z5f (q0u (by assumption)) (q0u (by assumption))))))|exact z5f (z47 (by assumption)) (z5f (q9c (by assumption)) (z5f (q0u (by assumption)) (z5f (q0u (by assumption)) (q0u (by assumption)))))
theorem qiv {s0:Sta}:∀{n:Nat} {r r':RS} {x:PAg},agsR s0 n r=.ok (x,r')→r'.bs.length≤r.bs.length
 | 0,s,s',x,h=>by cases h; exact z5c _
 | n+1,s,s',x,h=>by
  unfold agsR at h
  (repeat' split at h) <;> first|(cases h; done)|(cases h; exact z5f (qxd (by assumption)) (z5f (q0u (by assumption)) (qiv (by assumption))))|exact z5f (qxd (by assumption)) (z5f (q0u (by assumption)) (qiv (by assumption)))
theorem qpj {s0:Sta}{s:RS}{e:Int}:∀{n j:Nat},agsR s0 j s=.error e→j≤n→agsR s0 n s=.error e
 | 0,j,h,hj=>by
  obtain rfl:j=0:=by omega
  exact h
 | n+1,j,h,hj=>by
  rcases z5r n j with h1|h1
  ·obtain rfl:j=n+1:=by omega
   exact h
  ·unfold agsR;rw [qpj h h1]
end Go.Nm
namespace Go.Proofs.YtfmkddccnjidmaaGreatDoor
open Go.Nm
section
variable {F L:List Assn} {H:Heap} {K KP:Value→Heap→Prop} {Q Q':Assn} {sb:Nat} {s:Sta}
set_option maxHeartbeats 8000000 in
theorem z48 {rb b1 b2 b3 b4:Nat}{s0:Sta}{bs:List Int}{ba:Option Addr}{bc:Nat}{n r1 moment value:Int}{r:RS}{Q1:Assn}(hsub:Sub Q Q1)
  (hA:∀H,SatL H F→rdS H ba (bs.map U8)) (hA2:ba=none∨∃k o,ba=some ⟨k,o,none⟩) (ok:q2z s0) (hcm:s0.cm=[]) (hke:s0.kept=[]) (hn:0≤n∧n≤64) (hlag:1≤s0.ms.lag∧s0.ms.lag≤1099511627776) (hm:isT moment) (hb:q04 r.bs) (hl:r.bs.length≤1000000000) (hbs:q04 bs)
  (hgood:∀x r7 m r8 cm r9 k r10 l r',agsR s0 n.toNat r=.ok (x,r7)→(moment - s0.ms.lag≤value∧value≤moment)→q23 1024 r7=.ok (m,r8)→q55 s0.cfg.cells m.toNat r8=.ok (cm,r9)→numR r9=.ok (k,r10)→q4g k.toNat r10=.ok (l,r')→(q2f r').e=0→
   q2z { s0 with rows:=x.rows,sts:=x.sts,ms:=⟨s0.ms.lag,moment,value,x.fls⟩,cm:=cm,kept:=l }∧qv7 { s0 with rows:=x.rows,sts:=x.sts,ms:=⟨s0.ms.lag,moment,value,x.fls⟩,cm:=cm,kept:=l }∧l.length≤50000)
  (ke:(∀x r7 m r8 cm r9 k r10 l r',agsR s0 n.toNat r=.ok (x,r7)→(moment - s0.ms.lag≤value∧value≤moment)→q23 1024 r7=.ok (m,r8)→q55 s0.cfg.cells m.toNat r8=.ok (cm,r9)→numR r9=.ok (k,r10)→q4g k.toNat r10=.ok (l,r')→(q2f r').e=0→
   stB { s0 with rows:=x.rows,sts:=x.sts,ms:=⟨s0.ms.lag,moment,value,x.fls⟩,cm:=cm,kept:=l }=bs→False)→ql5 Q F K (.error 10))
  (kok:∀x r7 m r8 cm r9 k r10 l r',agsR s0 n.toNat r=.ok (x,r7)→(moment - s0.ms.lag≤value∧value≤moment)→q23 1024 r7=.ok (m,r8)→q55 s0.cfg.cells m.toNat r8=.ok (cm,r9)→numR r9=.ok (k,r10)→q4g k.toNat r10=.ok (l,r')→(q2f r').e=0→
   stB { s0 with rows:=x.rows,sts:=x.sts,ms:=⟨s0.ms.lag,moment,value,x.fls⟩,cm:=cm,kept:=l }=bs→
   ql5 Q F K (.ok { s0 with rows:=x.rows,sts:=x.sts,ms:=⟨s0.ms.lag,moment,value,x.fls⟩,cm:=cm,kept:=l }))
  (h:SatL H (crdA rb r::Q1::stA Q1 sb s0::Ma.mapF b4 []::cellsA b1 [PA sb 0] 27::cellsA b2 [I64 0] 28::cellsA b3 [PA rb 0] 109::F)) :
  ∃(Inv:Int→Heap→Prop) (mu:Int→Heap→Nat),Inv 0 H∧
   ∀(t:Int),∀H':Heap,Inv t H'→q0x.l4 ba bs.length bc K b1 b2 r1 b3 moment value b4 n Inv mu t H':=by
 refine⟨fun t H'=>∃(j:Nat) (x:PAg) (r':RS) (Q1:Assn) (p:SAd),t=j∧(j:Int)≤n∧agsR s0 j r=.ok (x,r')∧q04 r'.bs∧Sub Q Q1∧
  SatL H' (crdA rb r'::Q1::cellsA sb (q46 s0 p) 115::Ro.rollC p.rb p.rm s0.cfg.agents::Ro.mapE p.rm x.rows::strmA Q1 p.tm x.sts::Ma.markC p.mb p.mm s0.ms::Ma.mapF p.mm s0.ms.m::shC p.hb p.hm s0.cfg.cells::mapC p.hm s0.cm::slA 64 74 p.ka s0.kept.length p.kc (flat encO s0.kept)::
   Ma.mapF b4 x.fls::cellsA b1 [PA sb 0] 27::cellsA b2 [I64 0] 28::cellsA b3 [PA rb 0] 109::F),
  fun t _=>(n - t).toNat,?_,?_⟩
 ·have h:=h.o [2,0,1,3,4,5,6] 7;obtain⟨p,h⟩:=q0f.1 h;exact⟨0,⟨s0.rows,s0.sts,[]⟩,r,Q1,p,rfl,hn.1,rfl,hb,hsub,h.o [9,10,0,1,2,7,3,4,5,6,8,11,12,13,14] 15⟩
 rintro t H1 ⟨j,x,r',Q1,p,rfl,hj,hk,hb',hsub,h⟩;have hlt:=qiv hk;have hx:=qvd ok hk;unfold q0x.l4;refine⟨fun hc=>?_,fun hc=>?_⟩
 ·have hc:=z4z hc;refine⟨_,h.rds 14 rfl rfl,?_⟩;refine q2c h hb' (by omega) ?_
  cases hr:q1u r' with
  | error e=>
   have hk0:agsR s0 (j+1) r=.error e:=by
    rw [agsR,hk];dsimp only;rw [hr]
   exact fun H' he h=>PPan (ke fun x2 r7 m r8 cm r9 k r10 l r1 h1 _ _ _ _ _ _ _=>by rw [qpj hk0 (by omega)] at h1; cases h1) he hsub (h.o [11,12,0] 14)
  | ok q=>
  obtain⟨a,r2⟩:=q;intro H2 he2 hb2 hl2 h;refine⟨_,rfl,_,h.rds 14 rfl rfl,_,h.rd 12 rfl _,?_⟩;refine qsc (s:={ s0 with rows:=x.rows,sts:=x.sts }) (a:=a) ok.cfg hx.rows hx.len hb2 hl2 ?_ h;have hk1:agsR s0 (j+1) r=match agtR { s0 with rows:=x.rows,sts:=x.sts } a r2 with
    | .error e=>.error e
    | .ok (y,r3)=>.ok (⟨y.1,x.sts.set a.toNat (some y.2.2),mset a y.2.1 x.fls⟩,r3):=by
   rw [agsR,hk];dsimp only;rw [hr] <;> rfl
  cases hq:agtR { s0 with rows:=x.rows,sts:=x.sts } a r2 with
  | error e=>
   rw [hq] at hk1;exact fun Q2 H' he hs h=>PPan (ke fun x2 r7 m r8 cm r9 k r10 l r1 h1 _ _ _ _ _ _ _=>by rw [qpj hk1 (by omega)] at h1; cases h1) he (hsub.trans hs) (h.o [7,8,0] 10)
  | ok q=>
  obtain⟨y,r3⟩:=q;rw [hq] at hk1;intro Q2 H3 hs he3 hb3 hl3 h;refine⟨_,_,_,_,rfl,?_⟩;refine h.mp_update (α:=Fl) (v:=y.2.1) Ma.mt45 Ma.ko2 11 rfl fun H4 h=>?_
  have hw:i64.wrap ((j:Int)+1)=((j+1:Nat):Int):=by rw [w64 (by omega) (by omega)]; omega
  rw [hw];refine⟨⟨j+1,_,r3,Q2,p,rfl,by omega,hk1,hb3,hsub.trans hs,?_⟩,by dsimp only; omega⟩;exact h.o [1,0,2,4,5,3,6,7,8,9,10,11,12,13,14] 15
 ·have hge:=z54 hc;have hjn:j=n.toNat:=by omega
  subst hjn;refine⟨_,h.rd 12 rfl _,q02 ⟨_,h.rd 2 rfl _,?_⟩⟩
  by_cases hv:moment - s0.ms.lag≤value∧value≤moment
  ·refine Ma.Set_spec hm hlag hv (fun p hp=>⟨(hx.fls p hp).1,(hx.fls p hp).2.1⟩) (h.o [6,7,11,0,1,2,3,4,5,8,9,10,12,13,14] 15) fun rb' H2 h=>⟨_,rfl,?_⟩
   refine q1v (fun he=>⟨rfl,_,h.rds 14 rfl rfl,?_⟩) fun he=>absurd rfl he
   refine q8p (by decide) (h.o [3,4,5,6,7,8,0,1,9,10,11,12,13,14] 15) hb' (by omega) ?_
   cases hr:q23 1024 r' with
   | error e=>
    exact fun H' he h=>PPan (ke fun x2 r7 m r8 cm r9 k r10 l r1 h1 _ h3 _ _ _ _ _=>by rw [hk] at h1; cases h1; rw [hr] at h3; cases h3) he hsub (h.o [10,11,0] 13)
   | ok q=>
   obtain⟨m,r8⟩:=q;intro H3 he3 hb3 hl3 h;have hm8:=q5b hr;have hmm:0≤m∧m≤1024:=by rw [(q5a hr).2.1]; exact quz hb' (by decide)
   refine⟨_,rfl,?_⟩;have h:=h.o [2,3,4,6,7,8,9,5,10,0,1,11,12,13] 14;have h:SatL H3 (stA Q1 sb { s0 with rows:=x.rows,sts:=x.sts,ms:=⟨s0.ms.lag,moment,value,x.fls⟩,cm:=s0.cm,kept:=s0.kept }::_):=q0f.2 ⟨{ p with mm:=rb' },h⟩;rw [hcm,hke] at h;exact qve (s1:={ s0 with rows:=x.rows,sts:=x.sts,ms:=⟨s0.ms.lag,moment,value,x.fls⟩ }) hsub hA hA2 hmm (by have:=ok.sh; rwa [hcm] at this) hb3 (by omega) hbs
    (fun cm r9 k r10 l r11=>hgood x r' m r8 cm r9 k r10 l r11 hk hv hr) (fun hn=>ke fun x2 r7 m r8 cm r9 k r10 l r1 h1 _ h3 h4 h5 h6 h7 h8=>by
     rw [hk] at h1; cases h1; rw [hr] at h3; cases h3; exact hn _ _ _ _ _ _ h4 h5 h6 h7 h8) (fun cm r9 k r10 l r11=>kok x r' m r8 cm r9 k r10 l r11 hk hv hr) (h.o [1,2,0,3,4,5] 6)
  ·refine MSet_err hm hlag hv (h.o [6,0,1,2,3,4,5,7,8,9,10,11,12,13,14] 15) ⟨_,rfl,?_⟩;refine q1v (fun he=>absurd he (by decide)) fun he=>PPan (ke fun x2 r7 m r8 cm r9 k r10 l r1 h1 h2 _ _ _ _ _ _=>hv h2) he hsub (h.o [12,13,1] 15)
end
end Go.Proofs.YtfmkddccnjidmaaGreatDoor
namespace Go.Nm
theorem qpk {s s':RS}{x:Int}(hb:q04 s.bs)(h:numR s=.ok (x,s')):q04 s'.bs:=by rw [(q5a h).1]; exact q10 hb
theorem q4h {s s':RS}{x:Int}(hb:q04 s.bs)(h:q1u s=.ok (x,s')):q04 s'.bs:=by rw [(q5a h).1]; exact q10 hb
theorem qiw {s s':RS}{x:Int}(hb:q04 s.bs)(h:q7h s=.ok (x,s')):q04 s'.bs:=by rw [(q5a h).1]; exact q10 hb
theorem q9s {s s':RS}{m x:Int}(hb:q04 s.bs)(h:q23 m s=.ok (x,s')):q04 s'.bs:=by rw [(q5a h).1]; exact q9n hb
theorem qg4 {s s':RS}{m x:Int}(hb:q04 s.bs)(h:upR m s=.ok (x,s')):q04 s'.bs:=by
 unfold upR at h
 cases h1:q1u s with
 | error e=>rw [h1] at h; cases h
 | ok q=>
  obtain⟨a,s1⟩:=q;rw [h1] at h;dsimp only at h
  split at h
  ·cases h; exact q4h hb h1
  ·cases h
theorem z49 {s s':RS}{x:Pv}(hb:q04 s.bs)(h:q5x s=.ok (x,s')):q04 s'.bs:=by
 unfold q5x at h
 cases h1:q1u s with
 | error e'=>rw [h1] at h; cases h
 | ok q=>
  obtain⟨a,s1⟩:=q;rw [h1] at h;dsimp only at h
  cases h2:q7h s1 with
  | error e'=>rw [h2] at h; cases h
  | ok q=>
   obtain⟨b,s2⟩:=q;rw [h2] at h;dsimp only at h;rw [(q5a h).1];exact qkc (qiw (q4h hb h1) h2)
theorem waitR_by {hs:HS Pv}{s s':RS}{x:HS Pv}(hb:q04 s.bs)(h:qh3 hs s=.ok (x,s')):q04 s'.bs:=by
 unfold qh3 at h
 (repeat' split at h) <;> first|(cases h; done)|(cases h; exact z49 (q4h hb (by assumption)) (by assumption))
theorem smpR_by {s s':RS}{x:Smp}(hb:q04 s.bs)(h:smpR s=.ok (x,s')):q04 s'.bs:=by
 unfold smpR at h
 (repeat' split at h) <;> first|(cases h; done)|(cases h; exact q4h (q4h (q4h (q4h hb (by assumption)) (by assumption)) (by assumption)) (by assumption))
theorem qxe:∀{n:Nat} {s s':RS} {x:List Smp},q04 s.bs→qc6 n s=.ok (x,s')→q04 s'.bs
 | 0,s,s',x,hb,h=>by cases h; exact hb
 | n+1,s,s',x,hb,h=>by
  unfold qc6 at h
  (repeat' split at h) <;> first|(cases h; done)|(cases h; exact smpR_by (qxe hb (by assumption)) (by assumption))
theorem qsk {hs:HS Pv}:∀{n:Nat} {s s':RS} {x:HS Pv},q04 s.bs→q5s hs n s=.ok (x,s')→q04 s'.bs
 | 0,s,s',x,hb,h=>by cases h; exact hb
 | n+1,s,s',x,hb,h=>by
  unfold q5s at h
  (repeat' split at h) <;> first|(cases h; done)|exact waitR_by (qsk hb (by assumption)) h
theorem strR3_by {c:Cfg}{a b:Int}{d:Bool}{l:List Smp}{s s':RS}{x:Str}(hb:q04 s.bs)(h:qph c a d b l s=.ok (x,s')):q04 s'.bs:=by
 unfold qph at h
 (repeat' split at h) <;> first|(cases h; done)|(cases h; exact qsk (q9s (q4h hb (by assumption)) (by assumption)) (by assumption))
theorem strR2_by {c:Cfg}{a:Int}{s s':RS}{x:Str}(hb:q04 s.bs)(h:qlu c a s=.ok (x,s')):q04 s'.bs:=by
 unfold qlu at h
 (repeat' split at h) <;> first|(cases h; done)|exact strR3_by (qxe (q9s (q4h (qpk hb (by assumption)) (by assumption)) (by assumption)) (by assumption)) h
theorem strR_by {c:Cfg}{s s':RS}{x:Str}(hb:q04 s.bs)(h:strR c s=.ok (x,s')):q04 s'.bs:=by
 unfold strR at h
 (repeat' split at h) <;> first|(cases h; done)|exact strR2_by (qiw hb (by assumption)) h
theorem flR_by {c:Cfg}{t:Int}{s s':RS}{x:Fl × Str}(hb:q04 s.bs)(h:flR c t s=.ok (x,s')):q04 s'.bs:=by
 unfold flR at h
 (repeat' split at h) <;> first|(cases h; done)|(cases h; exact strR_by (qpk hb (by assumption)) (by assumption))
theorem agtR_by {s0:Sta}{a:Int}{s s':RS}{x:List En × Fl × Str}(hb:q04 s.bs)(h:agtR s0 a s=.ok (x,s')):q04 s'.bs:=by
 unfold agtR at h
 (repeat' split at h) <;> first|(cases h; done)|(cases h; exact flR_by (qg4 (q4h (q4h (q4h hb (by assumption)) (by assumption)) (by assumption)) (by assumption)) (by assumption))
theorem qvf {s0:Sta}:∀{n:Nat} {r r':RS} {x:PAg},q04 r.bs→agsR s0 n r=.ok (x,r')→q04 r'.bs
 | 0,s,s',x,hb,h=>by cases h; exact hb
 | n+1,s,s',x,hb,h=>by
  unfold agsR at h
  (repeat' split at h) <;> first|(cases h; done)|(cases h; exact agtR_by (q4h (qvf hb (by assumption)) (by assumption)) (by assumption))
theorem qsl {c:Cfg}{bs:List Int}{s:Sta}(hb:q04 bs)(okc:qde c)(h:q5y c bs=.ok s):q2z s:=by
 unfold q5y at h
 cases h1:upR 4611686018427387903 ⟨0,bs⟩ with
 | error e=>rw [h1] at h; cases h
 | ok q=>
 obtain⟨now,r1⟩:=q;have b1:=qg4 hb h1;rw [h1] at h;dsimp only at h
 cases h2:upR 1099511627776 r1 with
 | error e=>rw [h2] at h; cases h
 | ok q=>
 obtain⟨boots,r2⟩:=q;have b2:=qg4 b1 h2;rw [h2] at h;dsimp only at h
 cases h3:upR 1099511627776 r2 with
 | error e=>rw [h3] at h; cases h
 | ok q=>
 obtain⟨sunk,r3⟩:=q;have b3:=qg4 b2 h3;rw [h3] at h;dsimp only at h
 cases h4:upR now r3 with
 | error e=>rw [h4] at h; cases h
 | ok q=>
 obtain⟨moment,r4⟩:=q;have b4:=qg4 b3 h4;rw [h4] at h;dsimp only at h
 cases h5:q7h r4 with
 | error e=>rw [h5] at h; cases h
 | ok q=>
 obtain⟨value,r5⟩:=q;have b5:=qiw b4 h5;rw [h5] at h;dsimp only at h
 cases h6:q23 64 r5 with
 | error e=>rw [h6] at h; cases h
 | ok q=>
 obtain⟨n,r6⟩:=q;have b6:=q9s b5 h6;rw [h6] at h;dsimp only at h;have i1:=qg2 h1;have i2:=qg2 h2;have i3:=qg2 h3;have i4:=qg2 h4;have ok0:q2z { newS c with now:=now,boots:=boots,sunk:=sunk }:=(q9b okc).upd (now:=now) (ms:=(newS c).ms) (cm:=(newS c).cm) (kept:=(newS c).kept) (sunk:=sunk) (boots:=boots) i1 (q9b okc).ms rfl (q9b okc).sh (q9b okc).kept i3.1 i2
 cases h7:agsR { newS c with now:=now,boots:=boots,sunk:=sunk } n.toNat r6 with
 | error e=>rw [h7] at h; cases h
 | ok q=>
 obtain⟨x,r7⟩:=q;have b7:=qvf b6 h7;have gx:=qvd ok0 h7;rw [h7] at h;dsimp only at h
 split at h
 ·cases h
 rename_i hv;have hv:=Decidable.not_not.1 hv
 cases h8:q23 1024 r7 with
 | error e=>rw [h8] at h; cases h
 | ok q=>
 obtain⟨m,r8⟩:=q;have b8:=q9s b7 h8;rw [h8] at h;dsimp only at h
 cases h9:q55 c.cells m.toNat r8 with
 | error e=>rw [h9] at h; cases h
 | ok q=>
 obtain⟨cm,r9⟩:=q;have g9:=qg3 (q9b okc).sh b8 h9;rw [h9] at h;dsimp only at h
 cases h10:numR r9 with
 | error e=>rw [h10] at h; cases h
 | ok q=>
 obtain⟨k,r10⟩:=q;have b10:=qpk g9.2 h10;rw [h10] at h;dsimp only at h
 cases h11:q4g k.toNat r10 with
 | error e=>rw [h11] at h; cases h
 | ok q=>
 obtain⟨kept,r11⟩:=q;have g11:=qis b10 h11;rw [h11] at h;dsimp only at h
 split at h
 ·cases h
 cases h
 have hl:=okc.lag;have hm:isT moment:=⟨i4.1,by show moment≤_; omega⟩;exact⟨okc,i1,i2,i3.1,gx.rows,⟨hl.1,hl.2,hm,by show -c.lag≤value; omega,by show value≤_; omega,gx.nd,fun p hp=>⟨(gx.fls p hp).1,(gx.fls p hp).2.1⟩⟩,rfl,g9.1.sh,gx.len,gx.sts,gx.reg,g11.1⟩
end Go.Nm
namespace Go.Proofs.YtfmkddccnjidmaaGreatDoor
open Go.Nm
section
variable {F L:List Assn} {H:Heap} {K KP:Value→Heap→Prop} {Q Q':Assn} {sb:Nat} {s:Sta}
set_option maxHeartbeats 8000000 in
theorem qnf {c:Cfg}{bs:List Int}{ba:Option Addr}{bc:Nat}(h:SatL H (Q::F))
  (hA:∀H,SatL H F→rdS H ba (bs.map U8)) (hA2:ba=none∨∃k o,ba=some ⟨k,o,none⟩) (hbs:q04 bs) (hl:bs.length≤1000000000)
  (hgood:cfgR c=true→∀s,q5y c bs=.ok s→qv7 s∧s.kept.length≤50000)
  (k1:cfgR c=false→∀H',SatL H' (Q::F)→K (.tuple #[.pointer none,I64 11]) H')
  (k2:cfgR c=true→∀e,qg1 c bs=.error e→ql5 Q F K (.error 10))
  (k3:cfgR c=true→∀s,qg1 c bs=.ok s→ql5 Q F K (.ok s)) :
  CF 11 #[.agg ⟨qrq c⟩,.slice ba bs.length bc] H K:=by
 refine q0x.call ?_;unfold q0x.code;refine h.al fun b0 _ h=>?_
 refine h.al fun b1 _ h=>?_
 refine h.al fun b2 _ h=>?_
 refine⟨_,_,_,_,_,_,_,_,_,h.rds 2 rfl rfl,?_⟩;refine qnb (Q:=Q) (c:=c) h (fun hc H1 h=>?_) fun hc sb H1 h=>?_
 ·refine⟨_,_,rfl,?_⟩;refine h.st 1 rfl rfl ?_;intro H2 h;refine h.st 0 rfl rfl ?_;intro H3 h;refine⟨_,h.rd 0 rfl _,fun _=>?_,fun hf=>absurd hf (by simp)⟩
  refine⟨_,h.rd 0 rfl _,?_⟩;refine h.st 1 rfl rfl ?_;intro H4 h;refine⟨h.rd 0 rfl _,?_⟩;refine h.st 0 rfl rfl ?_;intro H5 h;exact⟨_,h.rd 1 rfl _,_,h.rd 0 rfl _,k1 hc _ (h.o [3] 4)⟩
 have okc:=qh2 hc;have ok0:=q9b okc;refine⟨_,_,rfl,?_⟩;refine h.st 2 rfl rfl ?_;intro H2 h;refine h.st 1 rfl rfl ?_;intro H3 h;refine⟨_,h.rd 1 rfl _,fun hf=>absurd hf (by simp),fun _=>?_⟩
 refine qjz h (fun H h=>hA H (h.o [] 5)) (by omega) fun rb H4 h=>⟨_,rfl,?_⟩
 refine h.al fun b3 _ h=>?_
 refine h.st 0 rfl rfl ?_;intro H5 h;refine⟨_,h.rd 4 rfl _,_,h.rd 4 rfl _,_,h.rd 4 rfl _,_,h.rds 0 rfl rfl,_,h.rds 0 rfl rfl,_,h.rds 0 rfl rfl,?_⟩;have h:=h.o [1,0,2,3,4,6] 7;have KE:=fun e (he:q5y c bs=.error e)=>k2 hc 10 (by unfold qg1; rw [if_neg (by simp [hc]),he])
 have pan:∀{e:Int} {H:Heap} {sv:Sta} {b1 b2 b3 rb:Nat} {v1:Int} {v:Option Addr},ql5 Q F K (.error 10)→e≠0→SatL H (cellsA b3 [PA rb 0] 109::stA Q sb sv::cellsA b2 [I64 v1] 28::cellsA b1 [.pointer v] 27::Q::F)→
   memN 37 X.calls=true∧DefQ Tryz.prog 37 [(PA b1 0),(PA b2 0)] (panM (pnV e) false) H fun u24 H_64=>u24=panM (pnV e) true∧
   ∃res10,q00 H_64 b1 0=some (.pointer res10)∧∃res11,q00 H_64 b2 0=some (I64 res11)∧K (.tuple #[(.pointer res10),(I64 res11)]) H_64:=
  fun ke he h=>PPan ke he (Sub.refl Q) (h.o [3,2,4] 5)
 unfold q5y at KE;refine q9r h hbs (by show bs.length≤_; omega) ?_
 cases h1:upR 4611686018427387903 ⟨0,bs⟩ with
 | error e=>rw [h1] at KE; exact fun H' he h=>pan (KE _ rfl) he h
 | ok q=>
 obtain⟨now,r1⟩:=q;rw [h1] at KE;dsimp only at KE;intro H6 e1 b1' l1 h;refine⟨_,rfl,h.rds 1 rfl rfl,h.rds 1 rfl rfl,h.rd 4 rfl _,h.rd 4 rfl _,h.rd 4 rfl _,?_⟩;refine q9r h b1' l1 ?_
 cases h2:upR 1099511627776 r1 with
 | error e=>rw [h2] at KE; exact fun H' he h=>pan (KE _ rfl) he h
 | ok q=>
 obtain⟨boots,r2⟩:=q;rw [h2] at KE;dsimp only at KE;intro H7 e2 b2' l2 h;refine⟨_,rfl,h.rds 1 rfl rfl,h.rd 4 rfl _,h.rd 4 rfl _,h.rd 4 rfl _,?_⟩;refine q9r h b2' l2 ?_
 cases h3:upR 1099511627776 r2 with
 | error e=>rw [h3] at KE; exact fun H' he h=>pan (KE _ rfl) he h
 | ok q=>
 obtain⟨sunk,r3⟩:=q;rw [h3] at KE;dsimp only at KE;intro H8 e3 b3' l3 h;have i1:=qg2 h1;have i2:=qg2 h2;have i3:=qg2 h3;have okN:q2z { newS c with now:=now,boots:=boots,sunk:=sunk }:=ok0.upd (now:=now) (ms:=(newS c).ms) (cm:=(newS c).cm) (kept:=(newS c).kept) (sunk:=sunk) (boots:=boots) i1 ok0.ms rfl ok0.sh ok0.kept i3.1 i2;refine⟨_,rfl,h.rd 4 rfl _,h.rd 4 rfl _,h.rd 4 rfl _,q02 ?_⟩;have h:=h.o [2,0,1,3,4,5] 6;obtain⟨p,h⟩:=q0f.1 h;refine h.st 0 rfl rfl ?_;intro H9 h;refine⟨h.rd 12 rfl _,h.rd 12 rfl _,q02 ?_⟩;refine h.st 0 rfl rfl ?_;intro H10 h;refine⟨h.rd 12 rfl _,q02 ?_⟩;refine h.st 0 rfl rfl ?_;intro H11 h;refine⟨_,h.rds 10 rfl rfl,_,h.rd 12 rfl _,q02 ⟨_,h.rd 0 rfl _,_,h.rds 10 rfl rfl,?_⟩⟩;have h:SatL H11 (stA Q sb { newS c with now:=now,boots:=boots,sunk:=sunk }::_):=q0f.2 ⟨p,h⟩;have h:=h.o [1,2,0,3,4,5] 6;refine q9r h b3' l3 ?_
 cases h4:upR now r3 with
 | error e=>rw [h4] at KE; exact fun H' he h=>pan (KE _ rfl) he h
 | ok q=>
 obtain⟨moment,r4⟩:=q;rw [h4] at KE;dsimp only at KE;intro H12 e4 b4' l4 h;refine⟨_,rfl,h.rds 1 rfl rfl,?_⟩;refine q8o h b4' l4 ?_
 cases h5:q7h r4 with
 | error e=>rw [h5] at KE; exact fun H' he h=>pan (KE _ rfl) he h
 | ok q=>
 obtain⟨value,r5⟩:=q;rw [h5] at KE;dsimp only at KE;intro H13 e5 b5' l5 h;refine⟨_,rfl,?_⟩;refine h.alm I64 aggF fun b4 _ h=>?_
 refine⟨_,h.rds 2 rfl rfl,?_⟩;have h:=h.o [1,2,3,4,5,6,0] 7;refine q8p (by decide) h b5' l5 ?_
 cases h6:q23 64 r5 with
 | error e=>rw [h6] at KE; exact fun H' he h=>pan (KE _ rfl) he (h.o [0,1,2,3,4] 6)
 | ok q=>
 obtain⟨n,r6⟩:=q;rw [h6] at KE;dsimp only at KE;intro H14 e6 b6' l6 h;have i4:=qg2 h4;have hn:0≤n∧n≤64:=by rw [(q5a h6).2.1]; exact quz b5' (by decide)
 have t1:=q9c h1;have t2:=q9c h2;have t3:=q9c h3;have t4:=q9c h4;have t5:=q8s h5;have t6:=q5b h6;dsimp only at t1;refine⟨_,rfl,?_⟩;have P1:∀x r7 m r8 cm r9 k r10 l r',agsR { newS c with now:=now,boots:=boots,sunk:=sunk } n.toNat r6=.ok (x,r7)→(moment - c.lag≤value∧value≤moment)→q23 1024 r7=.ok (m,r8)→q55 c.cells m.toNat r8=.ok (cm,r9)→numR r9=.ok (k,r10)→q4g k.toNat r10=.ok (l,r')→(q2f r').e=0→
   q5y c bs=.ok ⟨c,now,boots,sunk,x.rows,⟨c.lag,moment,value,x.fls⟩,cm,x.sts,l⟩:=by
  intro x r7 m r8 cm r9 k r10 l r' a1 a2 a3 a4 a5 a6 a7;unfold q5y;rw [h1]; dsimp only;rw [h2]; dsimp only;rw [h3]; dsimp only;rw [h4]; dsimp only;rw [h5]; dsimp only;rw [h6]; dsimp only;rw [a1]; dsimp only;rw [if_neg (fun hn=>hn a2),a3]; dsimp only
  rw [a4]; dsimp only;rw [a5]; dsimp only;rw [a6]; dsimp only;rw [if_neg (fun hn=>hn a7)]
 have P2:∀s,q5y c bs=.ok s→∃x r7 m r8 cm r9 k r10 l r',agsR { newS c with now:=now,boots:=boots,sunk:=sunk } n.toNat r6=.ok (x,r7)∧(moment - c.lag≤value∧value≤moment)∧q23 1024 r7=.ok (m,r8)∧q55 c.cells m.toNat r8=.ok (cm,r9)∧numR r9=.ok (k,r10)∧q4g k.toNat r10=.ok (l,r')∧(q2f r').e=0∧
   s=⟨c,now,boots,sunk,x.rows,⟨c.lag,moment,value,x.fls⟩,cm,x.sts,l⟩:=by
  intro s hp;unfold q5y at hp;rw [h1] at hp; dsimp only at hp;rw [h2] at hp; dsimp only at hp;rw [h3] at hp; dsimp only at hp;rw [h4] at hp; dsimp only at hp;rw [h5] at hp; dsimp only at hp;rw [h6] at hp; dsimp only at hp
  cases a1:agsR { newS c with now:=now,boots:=boots,sunk:=sunk } n.toNat r6 with
  | error e=>rw [a1] at hp; cases hp
  | ok q=>
  obtain⟨x,r7⟩:=q;rw [a1] at hp; dsimp only at hp
  split at hp
  ·cases hp
  rename_i a2;have a2:=Decidable.not_not.1 a2
  cases a3:q23 1024 r7 with
  | error e=>rw [a3] at hp; cases hp
  | ok q=>
  obtain⟨m,r8⟩:=q;rw [a3] at hp; dsimp only at hp
  cases a4:q55 c.cells m.toNat r8 with
  | error e=>rw [a4] at hp; cases hp
  | ok q=>
  obtain⟨cm,r9⟩:=q;rw [a4] at hp; dsimp only at hp
  cases a5:numR r9 with
  | error e=>rw [a5] at hp; cases hp
  | ok q=>
  obtain⟨k,r10⟩:=q;rw [a5] at hp; dsimp only at hp
  cases a6:q4g k.toNat r10 with
  | error e=>rw [a6] at hp; cases hp
  | ok q=>
  obtain⟨l,r'⟩:=q;rw [a6] at hp; dsimp only at hp
  split at hp
  ·cases hp
  rename_i a7
  cases hp
  exact⟨x,r7,m,r8,cm,r9,k,r10,l,r',rfl,a2,a3,a4,a5,a6,Decidable.not_not.1 a7,rfl⟩
 have ke:(∀x r7 m r8 cm r9 k r10 l r',agsR { newS c with now:=now,boots:=boots,sunk:=sunk } n.toNat r6=.ok (x,r7)→(moment - c.lag≤value∧value≤moment)→q23 1024 r7=.ok (m,r8)→q55 c.cells m.toNat r8=.ok (cm,r9)→numR r9=.ok (k,r10)→q4g k.toNat r10=.ok (l,r')→(q2f r').e=0→
   stB ⟨c,now,boots,sunk,x.rows,⟨c.lag,moment,value,x.fls⟩,cm,x.sts,l⟩=bs→False)→ql5 Q F K (.error 10):=by
  intro hn
  cases hp:qg1 c bs with
  | error e=>exact k2 hc e hp
  | ok s=>
   exfalso;unfold qg1 at hp;rw [if_neg (by simp [hc])] at hp
   cases hq:q5y c bs with
   | error e=>rw [hq] at hp; cases hp
   | ok s1=>
   rw [hq] at hp;dsimp only at hp
   split at hp
   ·rename_i he
    cases hp
    obtain⟨x,r7,m,r8,cm,r9,k,r10,l,r',a1,a2,a3,a4,a5,a6,a7,rfl⟩:=P2 _ hq;exact hn x r7 m r8 cm r9 k r10 l r' a1 a2 a3 a4 a5 a6 a7 he
   ·cases hp
 refine z48 (s0:={ newS c with now:=now,boots:=boots,sunk:=sunk }) (Sub.refl Q) hA hA2 okN rfl rfl hn okc.lag ⟨i4.1,by omega⟩ b6' (by omega) hbs ?_ ke ?_ (h.o [0,5,2,6,4,3,1] 7)
 ·intro x r7 m r8 cm r9 k r10 l r' a1 a2 a3 a4 a5 a6 a7;have:=P1 x r7 m r8 cm r9 k r10 l r' a1 a2 a3 a4 a5 a6 a7;exact⟨qsl hbs okc this,hgood hc _ this⟩
 ·intro x r7 m r8 cm r9 k r10 l r' a1 a2 a3 a4 a5 a6 a7 a8;have:=P1 x r7 m r8 cm r9 k r10 l r' a1 a2 a3 a4 a5 a6 a7;refine k3 hc _ ?_;unfold qg1;rw [if_neg (by simp [hc]),this];dsimp only;exact if_pos a8
end
end Go.Proofs.YtfmkddccnjidmaaGreatDoor
namespace Go.Nm
structure Rx where
 kind:Int
 ag:Int
 ep:Int
 bt:Int
 nx:Int
 st:Int
 nw:Int
 sm:Smp
 ea:Option Addr
 ec:Nat
 evs:List Ev
abbrev encX (x:Rx):List Value:=[I64 x.kind,I64 x.ag,I64 x.ep,I64 x.bt,I64 x.nx,I64 x.st,I64 x.nw,I64 x.sm.asked,I64 x.sm.got,I64 x.sm.sent,I64 x.sm.came,.slice x.ea x.evs.length x.ec]
theorem qxf (x:Rx):(encX x).length=12:=rfl
structure RxK (Q:Assn)(x:Rx):Prop where
 rd:KIn Q x.ea (flat encV x.evs)
 labs:∀e∈x.evs,q8m Q e
 val:∀e∈x.evs,wf64 e.value
 ll:∀e∈x.evs,e.labs.length≤maxLen
structure XsK (Q:Assn)(a:Option Addr)(xs:List Rx):Prop where
 rd:KIn Q a (flat encX xs)
 rx:∀x∈xs,RxK Q x
 ll:xs.length≤maxLen
def grL (l:Lab):Bool:=decide (300 < (l.name.size:Int)) || decide (300 < (l.value.size:Int))
def grS (name:ByteArray)(labs:List Lab):Bool:=decide (100 < (labs.length:Int)) || decide (300 < (name.size:Int)) || labs.any grL
def grE (evs:List Ev):Bool:=decide (100 < (evs.length:Int)) || evs.any fun e=>grS e.name e.labs
def grC (c:Cfg)(n:Nat):Bool:=decide (80 < (n:Int)) || (decide (200 < c.cells) && decide (c.cells≤1024))
def grR (c:Cfg)(xs:List Rx):Bool:=grC c xs.length || xs.any fun x=>grE x.evs
theorem ql7 {α:Type}{p:α→Bool}{l:List α}(h:∀q (hq:q < l.length),p l[q]=false):l.any p=false:=by
 rw [List.any_eq_false];intro x hx;obtain⟨q,hq,rfl⟩:=z7d hx;rw [h q hq]; simp
theorem qpl {α:Type}{p:α→Bool}{l:List α}{q:Nat}(hq:q < l.length)(h:p l[q]=true):l.any p=true:=List.any_eq_true.2 ⟨_,z5e hq,h⟩
end Go.Nm
namespace Go.Proofs.YtfmkddccnjidmaaGreatDoor
open Go.Nm
section
variable {F L:List Assn} {H H0:Heap} {K KP:Value→Heap→Prop} {Q Q':Assn} {sb:Nat} {s:Sta}
theorem qho {name:ByteArray}{labs:List Lab}{a:Option Addr}{c:Nat}(h:SatL H F)(ha:∀H,SatL H F→rdS H a (flat encL labs))(hl:labs.length≤maxLen)(k:∀H',SatL H' F→K (.bool (grS name labs)) H') :
  CF 99 #[.agg #[.string name,.slice a labs.length c]] H K:=by
 refine qe1.call ?_;unfold qe1.code;unfold grS at k;refine h.al fun b _ h=>⟨_,_,_,h.rd 0 rfl _,_,fun _=>h.rd 0 rfl _,fun hc=>?_,fun hc=>?_⟩
 ·rw [hc,Bool.true_or] at k;exact k _ h.tl
 rw [hc,Bool.false_or] at k;rw [z5g,z58] at hc;refine⟨fun i H'=>∃j:Nat,i=j∧j≤labs.length∧(∀q (hq:q < labs.length),q < j→grL labs[q]=false)∧SatL H' (cellsA b [.string name,.slice a labs.length c] 93::F),fun i _=>labs.length - i.toNat,⟨0,rfl,by omega,fun q _ h=>by omega,h⟩,?_⟩
 rintro i H' ⟨j,rfl,hj,hq,h⟩;unfold qe1.l1;refine⟨_,_,_,h.rd 0 rfl _,fun hc=>?_,fun hc=>?_⟩
 ·have hlt:j < labs.length:=by have:=z4z hc; omega
  have hr:=ha H' h.tl;have e1:=hr.el0 q2d hlt (v:=.string labs[j].name) rfl;have e2:=hr.el q2d hlt 1 (v:=.string labs[j].value) rfl;refine⟨_,_,_,h.rd 0 rfl _,by omega,_,_,hr.some q2d (by omega) hlt,_,by simpa using e1,_,_,_,fun _=>h.rd 0 rfl _,fun _=>by omega,_,_,fun _=>hr.some q2d (by omega) hlt,_,fun _=>by simpa using e2,fun hg=>?_,fun hg=>?_⟩
  ·rw [qpl hlt hg] at k;exact k _ h.tl
  ·rw [w64 (by omega) (by unfold maxLen at *; omega)];refine⟨⟨j+1,by omega,hlt,fun q hq2 hqj=>?_,h⟩,by dsimp only; omega⟩
   rcases z5r q j with h1|h1
   ·exact hq q hq2 h1
   ·obtain rfl:q=j:=by omega
    exact hg
 ·have hge:labs.length≤j:=by have:=z54 hc; omega
  rw [ql7 fun q hq2=>hq q hq2 (by omega)] at k
  exact k _ h.tl
theorem qsm {evs:List Ev}{a:Option Addr}{c:Nat}(h:SatL H F)(ha:∀H,SatL H F→rdS H a (flat encV evs))(hb:∀e∈evs,(∀H,SatL H F→rdS H e.la (flat encL e.labs))∧e.labs.length≤maxLen)(k:∀H',SatL H' F→K (.bool (grE evs)) H') :
  CF 36 #[.agg #[I64 0,I64 0,I64 0,I64 0,I64 0,I64 0,I64 0,I64 0,I64 0,I64 0,.slice a evs.length c,.string ⟨#[]⟩,.slice none 0 0,.slice none 0 0]] H K:=by
 refine q8c.call ?_;unfold q8c.code;unfold grE at k;refine h.al fun b _ h=>?_
 intro Jn hJ;refine⟨_,_,_,h.rd 0 rfl _,_,_,_,fun _=>h.rd 0 rfl _,_,_,_,_,fun _=>h.rds 0 rfl rfl,fun hc=>?_,fun hc=>?_⟩
 ·have hc1:decide (100 < (evs.length:Int))=false:=(z5g.1 hc).1;rw [hc1,Bool.false_or] at k;refine qho (labs:=[]) h (fun H _=>qa0 H _) (by simp) fun H2 h=>⟨_,rfl,hJ _ _ ?_⟩
  unfold q8c.r2;refine⟨fun hf=>absurd hf (by decide),fun _=>?_⟩
  rw [z58] at hc1;refine⟨fun i H'=>∃j:Nat,i=j∧j≤evs.length∧(∀q (hq:q < evs.length),q < j→grS evs[q].name evs[q].labs=false)∧SatL H' (cellsA b [I64 0,I64 0,I64 0,I64 0,I64 0,I64 0,I64 0,I64 0,I64 0,I64 0,.slice a evs.length c,.string ⟨#[]⟩,.slice none 0 0,.slice none 0 0] 104::F),fun i _=>evs.length - i.toNat,⟨0,rfl,by omega,fun q _ h=>by omega,h⟩,?_⟩
  rintro i H' ⟨j,rfl,hj,hq,h⟩;unfold q8c.l1;refine⟨_,_,_,h.rd 0 rfl _,fun hc=>?_,fun hc=>?_⟩
  ·have hlt:j < evs.length:=by have:=z4z hc; omega
   have hr:=ha H' h.tl;have e1:=hr.el q14 hlt 2 (v:=.string evs[j].name) rfl;have e2:=hr.el q14 hlt 3 (v:=.slice evs[j].la evs[j].labs.length evs[j].lc) rfl;obtain⟨g1,g2⟩:=hb _ (z5e hlt);refine⟨_,_,_,h.rd 0 rfl _,by omega,_,_,hr.some q14 (by omega) hlt,_,_,_,_,⟨e1,e2⟩,?_⟩;refine qho (name:=evs[j].name) (labs:=evs[j].labs) h (fun H h=>g1 H h.tl) g2 fun H2 h=>⟨_,rfl,fun hg=>?_,fun hg=>?_⟩
   ·rw [qpl (p:=fun e=>grS e.name e.labs) hlt hg] at k
    exact k _ h.tl
   ·rw [w64 (by omega) (by omega)];refine⟨⟨j+1,by omega,hlt,fun q hq2 hqj=>?_,h⟩,by dsimp only; omega⟩
    rcases z5r q j with h1|h1
    ·exact hq q hq2 h1
    ·obtain rfl:q=j:=by omega
     exact hg
  ·have hge:evs.length≤j:=by have:=z54 hc; omega
   rw [ql7 (p:=fun e=>grS e.name e.labs) fun q hq2=>hq q hq2 (by omega)] at k
   exact k _ h.tl
 ·have hc1:decide (100 < (evs.length:Int))=true:=by
   rw [z5g] at hc
   cases e:decide (100 < (evs.length:Int)) with
   | true=>rfl
   | false=>exact absurd ⟨e,by simp⟩ hc
  rw [hc1,Bool.true_or] at k;refine hJ _ _ ?_;unfold q8c.r2;exact⟨fun _=>k _ h.tl,fun hf=>absurd hf (by decide)⟩
theorem z0h {cf:Cfg}{a:Option Addr}{c:Nat}{xs:List Rx}(h:SatL H (Q::F))(hx:XsK Q a xs)(k:∀H',SatL H' (Q::F)→K (.bool (grR cf xs)) H') :
  CF 10 #[.agg ⟨qrq cf⟩,.slice a xs.length c] H K:=by
 refine qtx.call ?_;unfold qtx.code;unfold grR grC at k;refine h.al fun b _ h=>⟨_,fun _=>h.rd 0 rfl _,_,fun _=>h.rd 0 rfl _,fun hc=>?_,fun hc=>?_⟩
 ·rw [hc,Bool.true_or] at k;exact k _ h.tl
 rw [hc,Bool.false_or] at k;refine⟨fun i H'=>∃j:Nat,i=j∧j≤xs.length∧(∀q (hq:q < xs.length),q < j→grE xs[q].evs=false)∧SatL H' (cellsA b (qrq cf) 23::Q::F),fun i _=>xs.length - i.toNat,⟨0,rfl,by omega,fun q _ h=>by omega,h⟩,?_⟩
 rintro i H' ⟨j,rfl,hj,hq,h⟩;unfold qtx.l1;refine⟨fun hc=>?_,fun hc=>?_⟩
 ·have hlt:j < xs.length:=by have:=z4z hc; omega
  have hr:=hx.rd.at h 1 rfl;have e1:=hr.el qxf hlt 11 (v:=.slice xs[j].ea xs[j].evs.length xs[j].ec) rfl;refine⟨by omega,_,_,hr.some qxf (by omega) hlt,_,_,_,by simpa using e1,?_⟩;have hxj:=hx.rx _ (z5e hlt);refine qsm (evs:=xs[j].evs) h (fun H h=>hxj.rd.at h 1 rfl) (fun e he=>⟨fun H h=>(hxj.labs e he).at h 1 rfl,hxj.ll e he⟩) fun H2 h=>⟨_,rfl,fun hg=>?_,fun hg=>?_⟩
  ·rw [qpl (p:=fun x=>grE x.evs) hlt hg] at k
   exact k _ h.tl
  ·rw [w64 (by omega) (by have:=hx.ll; unfold maxLen at *; omega)];refine⟨⟨j+1,by omega,hlt,fun q hq2 hqj=>?_,h⟩,by dsimp only; omega⟩
   rcases z5r q j with h1|h1
   ·exact hq q hq2 h1
   ·obtain rfl:q=j:=by omega
    exact hg
 ·have hge:xs.length≤j:=by have:=z54 hc; omega
  rw [ql7 (p:=fun x=>grE x.evs) fun q hq2=>hq q hq2 (by omega)] at k
  exact k _ h.tl
end
open Go.Nm
section
variable {H:Type} {enc:TypeId × Value→H} {W:World}
theorem okWide_agg {P:Program}{w:World}{r:Reach}{base:Nat}{t:TypeId}{v:Value}{fs:Array Field}(ht:P.underlying t=some (.struct fs))(h:Value.okWide P w r base t v):∃cs,v=.agg cs:=by
 simp only [Value.okWide,ht] at h;obtain⟨cs,h,_⟩:=h;exact⟨cs,h⟩
theorem reads_cfg {cs:List Value}(h:qjx enc Tryz.prog W 23 cs):∃cf:Cfg,cs=qrq cf:=by
 obtain⟨hl,hf⟩:=qqw Tryz.underlying23 h;have c2:Tryz.prog.cellsOf 2=1:=by kernel_rfl
 have c3:Tryz.prog.cellsOf 3=1:=by kernel_rfl
 have c23:Tryz.prog.cellsOf 23=9:=by kernel_rfl
 rw [c23] at hl;simp only [z5l,z7r,or_false,forall_eq_or_imp,forall_eq,c2,c3] at hf;obtain⟨f1,f2,f3,f4,f5,f6,f7,f8,f9⟩:=hf
 match cs,hl with
 | [x1,x2,x3,x4,x5,x6,x7,x8,x9],_=>
  simp only [List.drop_zero,List.take_succ_cons,List.take_zero,List.drop_succ_cons] at f1 f2 f3 f4 f5 f6 f7 f8 f9;obtain⟨n1,e1,_,_⟩:=q4o Tryz.underlying2 f1;obtain⟨n2,e2,_,_⟩:=q4o Tryz.underlying3 f2;obtain⟨n3,e3,_,_⟩:=q4o Tryz.underlying2 f3;obtain⟨n4,e4,_,_⟩:=q4o Tryz.underlying2 f4;obtain⟨n5,e5,_,_⟩:=q4o Tryz.underlying2 f5;obtain⟨n6,e6,_,_⟩:=q4o Tryz.underlying3 f6;obtain⟨n7,e7,_,_⟩:=q4o Tryz.underlying3 f7;obtain⟨n8,e8,_,_⟩:=q4o Tryz.underlying3 f8;obtain⟨n9,e9,_,_⟩:=q4o Tryz.underlying3 f9;simp only [List.cons.injEq,and_true] at e1 e2 e3 e4 e5 e6 e7 e8 e9;subst e1 e2 e3 e4 e5 e6 e7 e8 e9;exact⟨⟨n1,n2,n3,n4,n5,n6,n7,n8,n9⟩,rfl⟩
theorem reads_bs {cs:List Value}(h:qjx enc Tryz.prog W 24 cs):∃a c bs,cs=[.slice a (List.length bs) c]∧bs.length≤maxLen∧rdS W.heap a (bs.map U8)∧q04 bs:=by
 obtain⟨a,c,xs,h1,h2,h3,h4⟩:=qyh (ec:=fun x:Int=>[U8 x]) (Q:=fun x=>0≤x∧x < 256) Tryz.underlying24 (by kernel_rfl) (by decide) h (fun us hu _=>by
  obtain⟨n,e,h5,h6⟩:=q4o Tryz.underlying5 hu;have h5:0≤n:=h5;have h6:n≤255:=h6;exact⟨n,e,h5,by omega⟩) (fun _=>rfl)
 have e:∀l:List Int,flat (fun x=>[U8 x]) l=l.map U8:=fun l=>by
  induction l with
  | nil=>rfl
  | cons x r ih=>rw [q5h,ih]; rfl
 rw [e] at h3;exact⟨a,c,xs,h1,h2,h3,h4⟩
end
end Go.Proofs.YtfmkddccnjidmaaGreatDoor
namespace Go.Nm
open Go.Proofs.YtfmkddccnjidmaaGreatDoor
theorem bvI (x:Int):(BitVec.ofInt 64 x).toNat=(x % 18446744073709551616).toNat:=by rw [BitVec.toNat_ofInt]; rfl
theorem bv_ones:BitVec.ofInt 64 (18446744073709551615:Int)=BitVec.allOnes 64:=by decide
theorem bv_ones':BitVec.ofInt 64 (-1:Int)=BitVec.allOnes 64:=by decide
theorem z4a:BitVec.ofInt 64 (0:Int)=0#64:=by decide
theorem z4b {x:Int}(h:0≤x∧x < 18446744073709551616):q0d .xor .u64 x 0=x:=by
 unfold q0d;show u64.wrap ((BitVec.ofInt 64 x ^^^ BitVec.ofInt 64 0).toNat:Int)=x;rw [z4a,BitVec.xor_zero,bvI,u64e]; omega
theorem z4c {x:Int}(h:0≤x∧x < 18446744073709551616):q0d .xor .u64 x 18446744073709551615=18446744073709551615 - x:=by
 unfold q0d;show u64.wrap ((BitVec.ofInt 64 x ^^^ BitVec.ofInt 64 18446744073709551615).toNat:Int)=_;rw [bv_ones,BitVec.xor_allOnes,BitVec.toNat_not,bvI,u64e]; omega
theorem z4d {x:Int}(h:wf64 x):q0d .xor .i64 x 0=x:=by
 unfold q0d wf64 at *;show i64.wrap ((BitVec.ofInt 64 x ^^^ BitVec.ofInt 64 0).toNat:Int)=x;rw [z4a,BitVec.xor_zero,bvI,i64e]; omega
theorem z4e {x:Int}(h:wf64 x):q0d .xor .i64 x (-1)=-x - 1:=by
 unfold q0d wf64 at *;show i64.wrap ((BitVec.ofInt 64 x ^^^ BitVec.ofInt 64 (-1)).toNat:Int)=_;rw [bv_ones',BitVec.xor_allOnes,BitVec.toNat_not,bvI,i64e]; omega
theorem andU_one {n:Nat}(h:n < 18446744073709551616):q0d .and .u64 (n:Int) 1=((n % 2:Nat):Int):=by
 have:=and64 (m:=1) h (by decide);rw [Nat.and_one_is_mod] at this;exact this
theorem turnI_eq {v:Int}(h:wf64 v):qu7 v=if 0≤v then 2*v else -2*v - 1:=by
 unfold qu7;show q0d .xor .u64 (u64.wrap (u64.wrap v*2 ^ 1)) (u64.wrap (Int.fdiv v (2 ^ 63)))=_;unfold wf64 at h;have e2:((2:Int) ^ 63)=9223372036854775808:=by decide
 have e1:((2:Int) ^ 1)=2:=by decide
 rw [e1,e2]
 split
 ·have ed:Int.fdiv v 9223372036854775808=0:=by
   rw [z7p v (by decide)]; omega
  rw [ed,show u64.wrap 0=0 from rfl,z4b (z2p _),u64e,u64e]; omega
 ·have ed:Int.fdiv v 9223372036854775808=-1:=by
   rw [z7p v (by decide)]; omega
  rw [ed,show u64.wrap (-1)=18446744073709551615 from rfl,z4c (z2p _),u64e,u64e]; omega
theorem z0i {n:Nat}(h:n < 18446744073709551616):qgu n=if n % 2=0 then ((n / 2:Nat):Int) else -((n / 2:Nat):Int) - 1:=by
 unfold qgu;show q0d .xor .i64 (i64.wrap (Int.fdiv n (2 ^ 1))) (i64.wrap (0 - i64.wrap (q0d .and .u64 n 1)))=_;have e1:((2:Int) ^ 1)=2:=by decide
 rw [e1,andU_one h,z7p _ (by decide)];have hw:i64.wrap ((n:Int) / 2)=((n / 2:Nat):Int):=by rw [i64e]; omega
 rw [hw]
 split
 ·rename_i h0;rw [h0];show q0d .xor .i64 _ 0=_;exact z4d (by unfold wf64; omega)
 ·rename_i h0;have h1:n % 2=1:=by omega
  rw [h1];show q0d .xor .i64 _ (-1)=_;exact z4e (by unfold wf64; omega)
theorem ql8 {v:Int}(h:wf64 v):qgu (turnN v)=v:=by
 rw [z0i (qfl v)];have e:=qoy v;rw [turnI_eq h] at e;unfold wf64 at h
 split at e <;> split <;> omega
theorem qvg {u:Nat}(h:u < 18446744073709551616)(r:List Int):rdU 0 0 (q1x u++r)=.ok u (q1x u).length:=by
 have:=z1v (w:=u) (acc:=0) (i:=0) r (by simpa using h) (by omega) (by omega);simpa using this
theorem q7r {u:Nat}(h:u < 18446744073709551616)(r:List Int):uRes ⟨0,q1x u++r⟩=(u,⟨0,r⟩):=by
 unfold uRes;rw [if_neg (by simp),qvg h];simp
theorem z4f {v:Int}(h:wf64 v):i64.wrap ((u64N v:Nat):Int)=v:=by
 unfold wf64 at h;have:=qur v;rw [← this,u64e,i64e]; omega
theorem usB1 (v:Int):usB [v]=q1x (u64N v):=by simp [usB]
theorem q5t (v:Int)(l:List Int):usB (v::l)=usB [v]++usB l:=by simp [usB]
theorem intsB1 (v:Int):q2y [v]=q1x (turnN v):=by simp [q2y]
theorem z4g {v:Int}(h:0≤v)(h2:v < 18446744073709551616):((u64N v:Nat):Int)=v:=by
 rw [← qur,u64e]; omega
theorem qix {v:Int}(h:0≤v)(h2:v < 18446744073709551616)(r:List Int):numR ⟨0,usB [v]++r⟩=.ok (v,⟨0,r⟩):=by
 unfold numR;rw [usB1,q7r (qkl v),z4g h h2]; rfl
theorem q2t {v:Int}(h:wf64 v)(r:List Int):q1u ⟨0,usB [v]++r⟩=.ok (v,⟨0,r⟩):=by
 unfold q1u;rw [usB1,q7r (qkl v),z4f h]; rfl
theorem qc7 {v:Int}(h:wf64 v)(r:List Int):q7h ⟨0,q2y [v]++r⟩=.ok (v,⟨0,r⟩):=by
 unfold q7h iRes;rw [intsB1,q7r (qfl v),ql8 h]; rfl
theorem qpm {m:Int}{n:Nat}(h:(n:Int)≤m)(h2:n < 18446744073709551616)(r:List Int):cRes m ⟨0,q1x n++r⟩=((n:Int),⟨0,r⟩):=by
 unfold cRes;rw [if_neg (by simp),qvg h2];dsimp only;rw [if_neg (by omega)];simp
theorem q9t {m:Int}{n:Nat}(h:(n:Int)≤m)(h2:n < 9223372036854775808)(r:List Int):q23 m ⟨0,usB [(n:Int)]++r⟩=.ok ((n:Int),⟨0,r⟩):=by
 unfold q23;have e:u64N (n:Int)=n:=by have:=z4g (v:=(n:Int)) (by omega) (by omega); omega
 rw [usB1,e,qpm h (by omega)]; rfl
theorem ql9 {m v:Int}(h:0≤v∧v≤m)(h2:wf64 v)(r:List Int):upR m ⟨0,usB [v]++r⟩=.ok (v,⟨0,r⟩):=by
 unfold upR;rw [q2t h2];dsimp only;rw [if_pos (by simp [inM,h])]
theorem z0j (s:ByteArray):(q35 s).length=s.size:=by
 unfold q35;simp
theorem qg5 {m:Int}{s:ByteArray}(h:(s.size:Int)≤m)(h2:s.size < 18446744073709551616)(r:List Int):tRes m ⟨0,q38 s++r⟩=(q35 s,⟨0,r⟩):=by
 unfold tRes q38;rw [if_neg (by simp),z5d,qvg h2];dsimp only;have hl:=z0j s;rw [if_neg (by omega),if_neg (by simp only [z51]; omega)];rw [List.drop_left,List.take_append_of_le_length (by omega),z5o (by omega),← List.drop_drop,List.drop_left,← hl,List.drop_left]
theorem qau (s:ByteArray):strB (q35 s)=s:=by
 unfold strB;apply ByteArray.ext;apply Array.toList_inj.1;rw [strOfNums_data];unfold q35;apply z6n
 ·simp
 ·intro i h1 h2;simp
open Go.Proofs.YtfmkddccnjidmaaGreatDoor
abbrev bL (l:List UInt8):ByteArray:=⟨l.toArray⟩
theorem qla (l:List UInt8):lsB (bL l)=l:=by simp [lsB,bL]
theorem qhp (s:ByteArray):bL (lsB s)=s:=by
 apply ByteArray.ext;simp [lsB,bL]
theorem qng {s t:ByteArray}(h:lsB s=lsB t):s=t:=by rw [← qhp s,← qhp t,h]
theorem q5c (s t:ByteArray):lsB (s++t)=lsB s++lsB t:=by
 unfold lsB;rw [ByteArray.data_append,Array.toList_append]
theorem q6w (s:ByteArray)(i j:Nat):lsB (s.extract i j)=((lsB s).drop i).take (j - i):=by
 unfold lsB;rw [ByteArray.data_extract,Array.toList_extract]
theorem z4h {c:UInt8}{a b:List UInt8}(h:c∉a):idxU c (a++c::b)=a.length:=by
 unfold idxU;have e:(a++c::b).idxOf c=a.length:=by
  rw [List.idxOf_append,if_neg h,List.idxOf_cons_self]; omega
 rw [e,if_pos (by simp)]
theorem z4i {c:UInt8}{a:List UInt8}(h:c∉a):idxU c a=-1:=by
 unfold idxU;rw [if_neg];intro h2;exact h (List.idxOf_lt_length_iff.1 h2)
theorem z4j {c:UInt8}{s:ByteArray}{a b:List UInt8}(e:lsB s=a++c::b)(h:c∉a):cutS c s=(bL a,bL b,true):=by
 unfold cutS;have hs:s.size=a.length+(b.length+1):=by rw [← q6o,e]; simp
 rw [e,z4h h,if_pos (by omega)];congr 1
 ·apply qng;rw [q6w,e,qla]; simp
 ·congr 1;apply qng;rw [q6w,e,qla];have:((a.length:Int)).toNat+1=a.length+1:=by omega
  rw [this,← List.drop_drop,List.drop_left,List.drop_one,List.tail_cons];exact z5o (by omega)
theorem cutS_no {c:UInt8}{s:ByteArray}(h:c∉lsB s):cutS c s=(s,⟨#[]⟩,false):=by
 unfold cutS;rw [z4i h,if_neg (by decide)]
theorem sufS_at {c:UInt8}{s:ByteArray}{a:List UInt8}(e:lsB s=a++[c]):sufS c s=(bL a,true):=by
 unfold sufS;have hs:s.size=a.length+1:=by rw [← q6o,e]; simp
 have h1:s.extract (s.size - 1) s.size=(⟨#[c]⟩:ByteArray):=by
  apply qng;rw [q6w,e,hs];simp
 rw [h1,if_pos (by simp; omega)];congr 1;apply qng;rw [q6w,e,qla,hs];simp
theorem join2 (p q:List UInt8)(r:List (List UInt8)):Go.Lib.join (p::q::r) [44]=p++44::Go.Lib.join (q::r) [44]:=by
 rw [Go.Lib.join_cons,Go.Lib.join_cons]; simp [Go.Lib.joinTail]
theorem qlb:∀{ps:List (List UInt8)} {n:Nat} {s:ByteArray},ps≠[]→(∀p∈ps,(44:UInt8)∉p)→ps.length≤n+1→lsB s=Go.Lib.join ps [44]→q5v n s=ps.map bL
 | [],_,_,h,_,_,_=>absurd rfl h
 | [p],n,s,_,hp,_,e=>by
  have e:lsB s=p:=by rw [e,Go.Lib.join_one]
  have hn:(44:UInt8)∉lsB s:=by rw [e]; exact hp p (z5i ..)
  have es:s=bL p:=by rw [← e,qhp]
  cases n with
  | zero=>simp [q5v,es]
  | succ n=>
   unfold q5v;rw [z4i hn,if_pos (by decide),es]; rfl
 | p::q::r,0,s,_,_,hl,_=>by simp at hl
 | p::q::r,n+1,s,_,hp,hl,e=>by
  have e:lsB s=p++44::Go.Lib.join (q::r) [44]:=by rw [e,join2]
  have hn:=hp p (z5i ..);have hs:s.size=p.length+((Go.Lib.join (q::r) [44]).length+1):=by rw [← q6o,e]; simp
  unfold q5v;rw [e,z4h hn,if_neg (by omega)];have e1:s.extract 0 ((p.length:Int)).toNat=bL p:=by
   apply qng;rw [q6w,e,qla]; simp
  have e2:lsB (s.extract (((p.length:Int)).toNat+1) s.size)=Go.Lib.join (q::r) [44]:=by
   rw [q6w,e,z5a,← List.drop_drop,List.drop_left,List.drop_one,List.tail_cons];exact z5o (by omega)
  rw [e1,qlb (n:=n) (by simp) (fun x hx=>hp x (z5j _ hx)) (by simpa using hl) e2]
  rfl
theorem qlc {c:UInt8}(h:qrc c=true):c≠44∧c≠61∧c≠123∧c≠125:=by
 unfold qrc lowC at h;refine⟨?_,?_,?_,?_⟩ <;> (rintro rfl; revert h; decide)
theorem valC_not {c:UInt8}(h:valC c=true):c≠44∧c≠61∧c≠123∧c≠125:=by
 unfold valC at h;refine⟨?_,?_,?_,?_⟩ <;> (rintro rfl; revert h; decide)
theorem qh4 {s:ByteArray}(h:q8g s=true):∀c∈lsB s,qrc c=true:=by
 unfold q8g at h;simp only [z56,z69] at h;exact h.2
theorem qnh {l:Lab}(h:q59 l=true):(∀c∈lsB l.value,valC c=true)∧q8g l.name=true:=by
 unfold q59 at h;simp only [z56,z69] at h;exact⟨h.1.2,h.2⟩
theorem qiy (l:Lab):lsB (q7b l)=lsB l.name++61::lsB l.value:=by
 unfold q7b;rw [q5c,q5c,z5d]; rfl
theorem partL_no {l:Lab}(h:q59 l=true):(44:UInt8)∉lsB (q7b l):=by
 obtain⟨h1,h2⟩:=qnh h;rw [qiy];simp only [z6g,z5l,not_or];exact⟨fun hm=>(qlc (qh4 h2 _ hm)).1 rfl,by decide,fun hm=>(valC_not (h1 _ hm)).1 rfl⟩
theorem qxg:∀{ps:List (List UInt8)},(∀p∈ps,1≤p.length)→ps.length≤(Go.Lib.join ps [44]).length
 | [],_=>by simp
 | [p],h=>by rw [Go.Lib.join_one]; have:=h p (z5i ..); simpa using this
 | p::q::r,h=>by
  have ih:=qxg (ps:=q::r) fun x hx=>h x (z5j _ hx)
  rw [join2];simp only [z59,z51] at *;omega
theorem qvh {labs:List Lab}(hv:∀l∈labs,q59 l=true)(hl:labs.length≤8):q93 (labs.map q7b)=some labs:=by
 have key:∀j,j≤labs.length→q93 ((labs.take j).map q7b)=some (labs.take j):=by
  intro j
  induction j with
  | zero=>intro _; rfl
  | succ j ih=>
   intro hj;have ih:=ih (by omega);have hlt:j < labs.length:=by omega
   rw [z6t,List.getElem?_eq_getElem hlt,Option.toList_some,z5v];unfold q93 at ih ⊢;rw [z7k,ih];show qzk (some (labs.take j)) (q7b labs[j])=_;have hv:=hv _ (z5e hlt);have h61:(61:UInt8)∉lsB labs[j].name:=fun hm=>(qlc (qh4 (qnh hv).2 _ hm)).2.1 rfl
   unfold qzk;rw [z4j (qiy labs[j]) h61];dsimp only;rw [z5n,if_pos (by simp; omega),qhp,qhp]
 have:=key labs.length (z5c _)
 rwa [z6p] at this
theorem z0k {name:ByteArray}{labs:List Lab}(h:q4i name labs=true):q8l (q8h name labs)=(name,labs,true):=by
 have hp:=q92 h;have hn123:(123:UInt8)∉lsB name:=fun hm=>(qlc (qh4 hp.named _ hm)).2.2.1 rfl
 unfold q8h;rw [if_pos h]
 split
 ·rename_i h0;subst h0;unfold q8l;rw [cutS_no hn123];dsimp only;rw [if_neg (by simp),if_pos h]
 ·rename_i h0;have ej:lsB (qe6 labs)=Go.Lib.join ((labs.map q7b).map lsB) [44]:=qla _;have e1:lsB (((name++(⟨#[123]⟩:ByteArray))++qe6 labs)++(⟨#[125]⟩:ByteArray))=lsB name++123::(lsB (qe6 labs)++[125]):=by
   rw [q5c,q5c,q5c,z5d,z5d]; rfl
  have hj:q4r (qe6 labs)=labs.map q7b:=by
   have hps:∀p∈(labs.map q7b).map lsB,(44:UInt8)∉p∧1≤p.length:=by
    intro p hp';obtain⟨b,hb,rfl⟩:=z5b.1 hp';obtain⟨l,hl,rfl⟩:=z5b.1 hb;exact⟨partL_no (hp.val l hl),by rw [qiy]; simp; omega⟩
   have:=qxg (ps:=(labs.map q7b).map lsB) fun p hp'=>(hps p hp').2
   have:=qlb (ps:=(labs.map q7b).map lsB) (n:=(qe6 labs).size) (s:=qe6 labs) (by simpa using h0) (fun p hp'=>(hps p hp').1) (by rw [← q6o,ej]; omega) ej
   unfold q4r;rw [this,z68,z68];apply z73;intro l _;exact qhp _
  unfold q8l;rw [z4j e1 hn123];dsimp only;rw [if_pos rfl,sufS_at (qla _)];dsimp only;rw [if_pos rfl,qhp,hj,qvh hp.val hp.len,qhp];dsimp only;rw [if_pos h]
theorem qsn {labs:List Lab}(hv:∀l∈labs,q59 l=true)(r:List Int):∀j,j≤labs.length→q4d j ⟨0,labs.flatMap labB++r⟩=(labs.take j,⟨0,(labs.drop j).flatMap labB++r⟩)
 | 0,_=>rfl
 | j+1,h=>by
  have ih:=qsn hv r j (by omega);have hlt:j < labs.length:=by omega
  have hs:=q6s (hv _ (z5e hlt));have e:(labs.drop j).flatMap labB++r=q38 labs[j].name++(q38 labs[j].value++((labs.drop (j+1)).flatMap labB++r)):=by
   rw [z6h hlt,z6a]; simp [labB]
  unfold q4d;rw [ih];dsimp only;rw [e,qg5 (m:=64) (by omega) (by omega)];dsimp only;rw [qg5 (m:=64) (by omega) (by omega),qau,qau,z6t,List.getElem?_eq_getElem hlt];rfl
theorem z4k {name:ByteArray}{labs:List Lab}(h:q4i name labs=true)(r:List Int):q6u ⟨0,serR name labs++r⟩=⟨name,labs,0,⟨0,r⟩⟩:=by
 have hp:=q92 h;have hs:=q6r hp.named;unfold serR;rw [if_pos h];have e:serB name labs++r=q38 name++(q1x labs.length++(labs.flatMap labB++r)):=by unfold serB; simp
 unfold q6u;rw [e,qg5 (m:=64) (by omega) (by omega)];dsimp only;have h8:=hp.len;rw [qpm (m:=8) (by omega) (by omega)];dsimp only;rw [z5a,qsn hp.val r labs.length (z5c _),z6p,z6z];dsimp only;rw [if_neg (by simp),qau,if_pos h];rfl
open Go.Proofs.YtfmkddccnjidmaaGreatDoor
theorem dig (x m:Nat)(hm:0 < m):x / (m*256)*256+x / m % 256=x / m:=by
 rw [← Nat.div_div_eq_div_mul];have:=Nat.div_add_mod (x / m) 256;omega
theorem acc_dig {l:List Int}{x m:Nat}(hm:0 < m)(hx:x < 18446744073709551616)(h:accB l=x / (m*256)):accB (l++[((x / m % 256:Nat):Int)])=x / m:=by
 rw [qam,h,z5a];have e:=dig x m hm;have:x / m≤x:=Nat.div_le_self _ _;rw [z6u (by omega),e]
theorem z4l {x:Nat}(hx:x < 18446744073709551616):accB ((List.range 8).map fun p=>((x / 2 ^ (8*(7 - p)) % 256:Nat):Int))=x:=by
 have key:∀k,k≤8→accB ((List.range k).map fun p=>((x / 2 ^ (8*(7 - p)) % 256:Nat):Int))=x / 2 ^ (8*(8 - k)):=by
  intro k
  induction k with
  | zero=>
   intro _;show 0=_;rw [Nat.div_eq_of_lt (by simpa using hx)]
  | succ k ih=>
   intro hk;have ih:=ih (by omega);rw [List.range_succ,z5v];have e:2 ^ (8*(8 - k))=2 ^ (8*(7 - k))*256:=by
    have:8*(8 - k)=8*(7 - k)+8:=by omega
    rw [this,z6f]
   rw [e] at ih;have:=acc_dig (z6y _) hx ih;have e2:8 - (k+1)=7 - k:=by omega
   rw [e2];exact this
 have:=key 8 (z5c _);simpa using this
theorem z4m {z:Int}(h:q8d z):q7c (q4j z)=z:=by
 have e1:(q4j z).take 8=(List.range 8).map fun p=>(((whi z % B64).toNat / 2 ^ (8*(7 - p)) % 256:Nat):Int):=by
  apply z6n
  ·simp [q4j]
  ·intro i h1 h2;have hi:i < 8:=by simpa using h2
   simp only [q4j,List.getElem_take,z6o,z80];unfold wNat
   rw [if_pos hi]
 have e2:(q4j z).drop 8=(List.range 8).map fun p=>(((wlo z).toNat / 2 ^ (8*(7 - p)) % 256:Nat):Int):=by
  apply z6n
  ·simp [q4j]
  ·intro i h1 h2;have hi:i < 8:=by simpa using h2
   simp only [q4j,List.getElem_drop,z6o,z80];unfold wNat
   rw [if_neg (by omega)];have:15 - (8+i)=7 - i:=by omega
   rw [this]
 have hl:=q79 z;have hh:0≤whi z % B64∧whi z % B64 < B64:=⟨Int.emod_nonneg _ (by decide),Int.emod_lt_of_pos _ (by decide)⟩;unfold q7c;simp only [whi,wlo,B64] at hl hh e1 e2 ⊢;rw [e1,e2,z4l (by omega),z4l (by omega)];unfold q8d at h;rw [i64e];omega
def prsF (h:Nat→Int):Nat→Nat→List (Nat × Nat)
 | _,0=>[]
 | a,n+1=>(if h a=0 then [] else [(a,(h a).toNat)])++prsF h (a+1) n
def flP (l:List (Nat × Nat)):List Nat:=l.flatMap fun p=>[p.1,p.2]
theorem z0l (a b:List (Nat × Nat)):flP (a++b)=flP a++flP b:=by simp [flP]
theorem flP_len (l:List (Nat × Nat)):(flP l).length=2*l.length:=by
 induction l with
 | nil=>rfl
 | cons p r ih=>
  show (p.1::p.2::flP r).length=_;simp only [z59,ih]; omega
theorem qni (h:Nat→Int):∀n a,flP (prsF h a n)=(List.range' a n).flatMap fun i=>if h i=0 then [] else [i,(h i).toNat]
 | 0,a=>rfl
 | n+1,a=>by
  rw [List.range'_succ,z6a,← qni h n (a+1)];show flP ((if h a=0 then [] else [(a,(h a).toNat)])++prsF h (a+1) n)=_
  rw [z0l];congr 1
  split <;> rfl
theorem fullP_eq (h:Nat→Int)(n:Nat):q99 h n=flP (prsF h 0 n):=by
 rw [qni,← List.range_eq_range']; rfl
theorem qxh (h:Nat→Int):∀n a,(prsF h a n).length≤n
 | 0,a=>z5c _
 | n+1,a=>by
  have:=qxh h n (a+1);unfold prsF;rw [z51]
  split <;> simp <;> omega
theorem z4n {h:Nat→Int}:∀{n a:Nat} {p:Nat × Nat},p∈prsF h a n→a≤p.1∧p.1 < a+n∧h p.1≠0∧p.2=(h p.1).toNat
 | 0,a,p,hp=>by cases hp
 | n+1,a,p,hp=>by
  unfold prsF at hp
  rcases z6g.1 hp with hp|hp
  ·split at hp
   ·cases hp
   ·rename_i h0;rw [z60] at hp;subst hp;exact⟨z5c _,by omega,h0,rfl⟩
  ·have:=z4n hp;exact⟨by omega,by omega,this.2.2.1,this.2.2.2⟩
theorem qpn {h:Nat→Int}(hw:∀i,i < 65→0≤h i∧h i≤9223372036854775807):∀{n a:Nat} {prev:Option Nat} {g:Nat→Int},a+n≤65→(∀x,prev=some x→x < a)→
  qks (prsF h a n) prev g=some fun i=>if a≤i∧i < a+n∧h i≠0 then h i else g i
 | 0,a,prev,g,hn,hp=>by
  show some g=_;congr 1;funext i;rw [if_neg (by omega)]
 | n+1,a,prev,g,hn,hp=>by
  unfold prsF
  split
  ·rename_i h0;rw [z6l,qpn hw (by omega) fun x hx=>by have:=hp x hx; omega]
   congr 1;funext i
   by_cases hi:i=a
   ·subst hi;rw [if_neg (by omega),if_neg (by simp [h0])]
   ·by_cases hc:a≤i∧i < a+(n+1)∧h i≠0
    ·rw [if_pos ⟨by omega,by omega,hc.2.2⟩,if_pos hc]
    ·rw [if_neg (fun hh=>hc ⟨by omega,by omega,hh.2.2⟩),if_neg hc]
  ·rename_i h0;have hb:=hw a (by omega);show qks ((a,(h a).toNat)::prsF h (a+1) n) prev g=_;unfold qks;rw [if_neg (by
    intro hc
    rcases hc with hc|hc
    ·unfold qro at hc
     split at hc
     ·rename_i x;have:=hp x rfl;have:=z4z hc;omega
     ·cases hc
    ·omega),if_neg (by omega),qpn hw (by omega) fun x hx=>by cases hx; omega]
   congr 1;funext i
   by_cases hi:i=a
   ·subst hi;rw [if_neg (by omega),if_pos ⟨by omega,by omega,h0⟩];unfold updN;rw [if_pos rfl]; omega
   ·by_cases hc:a≤i∧i < a+(n+1)∧h i≠0
    ·rw [if_pos ⟨by omega,by omega,hc.2.2⟩,if_pos hc]
    ·rw [if_neg (fun hh=>hc ⟨by omega,by omega,hh.2.2⟩),if_neg hc]
     unfold updN;rw [if_neg hi]
theorem qnj (r:List Int):∀{l:List (Nat × Nat)},(∀p∈l,p.1 < 18446744073709551616∧p.2 < 18446744073709551616)→qc1 l.length ⟨0,q2r (flP l)++r⟩=(l,⟨0,r⟩)
 | [],_=>rfl
 | p::l,h=>by
  have h1:=h p (z5i ..);have ih:=qnj r (l:=l) fun q hq=>h q (z5j _ hq)
  have e:q2r (flP (p::l))++r=q1x p.1++(q1x p.2++(q2r (flP l)++r)):=by
   show q2r (p.1::p.2::flP l)++r=_;simp [q2r]
  show qc1 (l.length+1) _=_;unfold qc1;rw [e,q7r h1.1];dsimp only;rw [q7r h1.2];dsimp only;rw [ih]
def CH (c:Cl):Prop:=∀i,65≤i→c.h i=0
theorem z4o {c:Cl}(wc:WC c)(hr:q43 c=true)(hc:CH c):q8q (q3q c)=(c,0):=by
 obtain⟨p1,p2,p3,p4⟩:=qgw hr;have hn:=wc.n; have hce:=wc.cer; have hpo:=wc.pos;unfold wf64 at hn hce hpo;have hh:∀i,i < 65→0≤c.h i∧c.h i≤9223372036854775807:=fun i hi=>⟨p4 i hi,(wc.h i hi).2⟩
 have hpl:=qxh c.h 65 0;have hpr:∀p∈prsF c.h 0 65,p.1 < 18446744073709551616∧p.2 < 18446744073709551616:=by
  intro p hp;obtain⟨a1,a2,a3,a4⟩:=z4n hp;have:=hh p.1 (by omega);exact⟨by omega,by omega⟩
 have e:q3q c=q1x c.n.toNat++(q1x c.cer.toNat++(q1x c.pos.toNat++(q2y [c.mn]++(q2y [c.mx]++(q38 (strB (q4j c.sum))++(q1x (prsF c.h 0 65).length++(q2r (flP (prsF c.h 0 65))++[]))))))):=by
  unfold q3q;rw [if_pos hr,fullP_eq,flP_len];have:2*(prsF c.h 0 65).length / 2=(prsF c.h 0 65).length:=by omega
  rw [this];simp [q2r,q2y]
 have hsz:(strB (q4j c.sum)).size=16:=by rw [q4q,q9p]
 have hbi:q35 (strB (q4j c.sum))=q4j c.sum:=by
  unfold q35;rw [show (strB (q4j c.sum)).data.toList=(q4j c.sum).map fun n=>UInt8.ofNat n.toNat from strOfNums_data _,z68]
  apply z6n (by simp);intro i h1 h2;simp only [z6o,Function.comp];exact qi9 (qua c.sum) i h2
 have s1:=fun r=>qc7 wc.mn r
 have iRes_enc:∀{v:Int} (h:wf64 v) (r:List Int),iRes ⟨0,q2y [v]++r⟩=(v,⟨0,r⟩):=by
  intro v h r;unfold iRes;rw [intsB1,q7r (qfl v),ql8 h]
 rw [e];unfold q8q;dsimp only;rw [q7r (by omega)];dsimp only;rw [q7r (by omega)];dsimp only;rw [q7r (by omega)];dsimp only;rw [iRes_enc wc.mn];dsimp only;rw [iRes_enc wc.mx];dsimp only;rw [qg5 (m:=16) (by omega) (by omega)];dsimp only;rw [qpm (m:=65) (by omega) (by omega)];dsimp only;rw [z5a,qnj [] hpr];dsimp only;rw [show (q2f ⟨0,[]⟩).e=0 from rfl,if_neg (by simp)];unfold qh0;rw [if_neg (by omega),hbi,if_neg (by rw [q9p]; simp),qpn hh (by omega) (fun x hx=>by cases hx)]
 dsimp only;have hf:(fun i=>if 0≤i∧i < 0+65∧c.h i≠0 then c.h i else Z0 i)=c.h:=by
  funext i
  by_cases h65:i < 65
  ·by_cases h0:c.h i=0
   ·rw [if_neg (by simp [h0]),h0]
   ·rw [if_pos ⟨by omega,by omega,h0⟩]
  ·rw [if_neg (by omega),hc i (by omega)]
 rw [hf,z4m wc.sum,z7y p1,z7y p2,z7y p3];rw [if_pos hr]
open Go.Proofs.YtfmkddccnjidmaaGreatDoor
theorem qxi {e:Pv}(h:q9a e=true):(0≤e.stamp∧e.stamp≤4611686018427387903)∧q4i e.name e.labs=true:=by
 unfold q9a at h;simp only [z56,z52] at h;exact h
theorem qnk {e:Pv}(h:q9a e=true)(hv:wf64 e.value)(r:List Int):q5x ⟨0,evB e++r⟩=.ok (e,⟨0,r⟩):=by
 obtain⟨h1,h2⟩:=qxi h;have e1:evB e++r=usB [e.stamp]++(q2y [e.value]++(serR e.name e.labs++r)):=by unfold evB; simp
 unfold q5x;rw [e1,q2t (by unfold wf64; omega)];dsimp only;rw [qc7 hv];dsimp only;rw [z4k h2];rfl
theorem smpR_enc {x:Smp}(h:x.ok)(r:List Int):smpR ⟨0,smB x++r⟩=.ok (x,⟨0,r⟩):=by
 have hw:=h.wf;unfold Smp.wf at hw;have e1:smB x++r=usB [x.asked]++(usB [x.got]++(usB [x.sent]++(usB [x.came]++r))):=by simp [smB,usB]
 unfold smpR;rw [e1,q2t hw.1];dsimp only;rw [q2t hw.2.1];dsimp only;rw [q2t hw.2.2.1];dsimp only;rw [q2t hw.2.2.2]
theorem qso {l:List Smp}(h:∀x∈l,x.ok)(r:List Int):∀j,j≤l.length→qc6 j ⟨0,l.flatMap smB++r⟩=.ok (l.take j,⟨0,(l.drop j).flatMap smB++r⟩)
 | 0,_=>rfl
 | j+1,hj=>by
  have hlt:j < l.length:=by omega
  unfold qc6;rw [qso h r j (by omega)];dsimp only;rw [z6h hlt,z6a,z5d,smpR_enc (h _ (z5e hlt))];dsimp only;rw [z6t,List.getElem?_eq_getElem hlt]; rfl
theorem z4p {α:Type}{n:Int}{v:α}:∀{l:RowL α},(∀p∈l,p.1 < n)→ins n v l=l++[(n,v)]
 | [],_=>rfl
 | (a,b)::r,h=>by
  have h1:=h _ (z5i ..);dsimp only at h1;unfold ins;rw [if_neg (by omega),z4p fun p hp=>h p (z5j _ hp)]; rfl
theorem pop_none {α:Type}{next:Int}:∀{l:RowL α},(∀p∈l,next+1≤p.1)→pop next l=([],next,l)
 | [],_=>rfl
 | (n,v)::r,h=>by
  have h1:=h _ (z5i ..);dsimp only at h1;unfold pop;rw [if_neg (by omega)]
theorem z4q {next most n:Int}{l:RowL Pv}{e:Pv}(h0:0≤next)(hb:∀p∈l,next+1≤p.1∧p.1 < n)(hn:next+1≤n)(hm:n < next+most)(hn2:n < 1099511627776)(he:q9a e=true)(hv:wf64 e.value)(r:List Int) :
  qh3 ⟨next,most,l⟩ ⟨0,rwB (n,e)++r⟩=.ok (⟨next,most,l++[(n,e)]⟩,⟨0,r⟩):=by
 have e1:rwB (n,e)++r=usB [n]++(evB e++r):=by simp [rwB]
 have hlk:q08 n l=none:=q0g.2 fun hk=>by
  obtain⟨p,hp,he⟩:=z5b.1 hk;have:=hb p hp; omega
 have ho:(⟨next,most,l⟩:HS Pv).offer n [e]=(⟨next,most,l++[(n,e)]⟩,[],0):=by
  unfold HS.offer;rw [if_neg (by omega)];have e2:q34 next most n [e] (l,0)=(l++[(n,e)],0):=by
   show q2e next most n e (l,0)=_;unfold q2e;dsimp only;rw [hlk,if_neg (by simp; omega),if_neg (by omega),z4p fun p hp=>(hb p hp).2]
  have e3:pop next (l++[(n,e)])=([],next,l++[(n,e)]):=pop_none fun p hp=>by
   rcases z6g.1 hp with hp|hp
   ·exact (hb p hp).1
   ·rw [z60] at hp; subst hp; exact hn
  dsimp only;rw [e2];dsimp only;rw [e3]
 unfold qh3;rw [e1,q2t (by unfold wf64; omega)];dsimp only;rw [qnk he hv];dsimp only;have hbp:q5w n [e]=true:=by
  unfold q5w;simp [he]; omega
 rw [hbp,if_neg (by simp),ho,if_neg (by simp)]
theorem qnl {next most:Int}{l:RowL Pv}(h0:0≤next)(hr:q4w (next+1) next most l)(hp:∀p∈l,p.1 < 1099511627776∧q9a p.2=true∧wf64 p.2.value)(r:List Int):∀j,j≤l.length→
  q5s ⟨next,most,[]⟩ j ⟨0,l.flatMap rwB++r⟩=.ok (⟨next,most,l.take j⟩,⟨0,(l.drop j).flatMap rwB++r⟩)
 | 0,_=>rfl
 | j+1,hj=>by
  have hlt:j < l.length:=by omega
  unfold q5s;rw [qnl h0 hr hp r j (by omega)];dsimp only;have hm:=z5e hlt;have hi:=hr.inb _ hm;have hpj:=hp _ hm;rw [z6h hlt,z6a,z5d];have hbefore:∀p∈l.take j,p.1 < l[j].1:=by
   intro p hp';obtain⟨q,hq,rfl⟩:=z7d hp';rw [z5n] at hq;rw [List.getElem_take];exact List.pairwise_iff_getElem.1 hr.rising q j (by omega) hlt (by omega)
  have:=z4q (next:=next) (most:=most) (n:=l[j].1) (l:=l.take j) (e:=l[j].2) h0 (fun p hp'=>⟨(hr.inb p (z7j hp')).1,hbefore p hp'⟩) hi.1 hi.2 hpj.1 hpj.2.1 hpj.2.2 ((l.drop (j+1)).flatMap rwB++r)
  rw [z6t,List.getElem?_eq_getElem hlt];exact this
theorem flN1 (b:Bool):flN [b] 1=if b then 1 else 0:=by cases b <;> rfl
def z0m (st:Str):List Int:=((usB [flN [st.ck.held] 1,st.ck.streak,(st.ck.smps.length:Int)]++st.ck.smps.flatMap smB)++usB [st.hs.next,(st.hs.rows.length:Int)])++st.hs.rows.flatMap rwB
theorem strR_enc {c:Cfg}{st:Str}(ok:qkv c st)(r:List Int):strR c ⟨0,q2y [st.last]++(z0m st++r)⟩=.ok (st,⟨0,r⟩):=by
 have hl:=ok.last;have hck:=ok.ck;have hsm:st.ck.smps.length≤8:=hck.len;have hst:=hck.st;have hn0:=ok.hs.next0;have hn1:=ok.next;have hm2:=ok.hs.most2;have hrl:=ok.hs.rows.length;have e1:z0m st++r=usB [flN [st.ck.held] 1]++(usB [st.ck.streak]++(usB [((st.ck.smps.length:Nat):Int)]++(st.ck.smps.flatMap smB++(usB [st.hs.next]++(usB [((st.hs.rows.length:Nat):Int)]++(st.hs.rows.flatMap rwB++r)))))):=by
  unfold z0m;rw [q5t (flN [st.ck.held] 1),q5t st.ck.streak,q5t st.hs.next];simp only [z5d]
 unfold strR;rw [qc7 (by unfold wf64; omega)];dsimp only;rw [if_neg (by simp [inM]; omega),e1];unfold qlu;have hf:=qx6 [st.ck.held] 1 (by decide);rw [qix hf.1 (by have:=hf.2; omega)];dsimp only;rw [q2t (by unfold wf64; omega)];dsimp only;rw [q9t (by omega) (by omega)];dsimp only;rw [z5a,qso hck.ok _ _ (z5c _),z6p,z6z];dsimp only;unfold qph;rw [if_neg (fun hh=>hh ⟨hsm,hst.1,hck.ok⟩)]
 have e2:([]:List Smp).flatMap smB++(usB [st.hs.next]++(usB [((st.hs.rows.length:Nat):Int)]++(st.hs.rows.flatMap rwB++r)))=usB [st.hs.next]++(usB [((st.hs.rows.length:Nat):Int)]++(st.hs.rows.flatMap rwB++r)):=rfl;rw [e2,q2t (by unfold wf64; omega)];dsimp only;rw [if_neg (by omega),q9t (by omega) (by omega)];dsimp only;have hrows:=ok.hs.rows;rw [ok.most] at hrows;rw [z5a,qnl hn0 hrows ok.rows _ _ (z5c _),z6p,z6z];dsimp only;have e3:decide (flN [st.ck.held] 1=1)=st.ck.held:=by rw [flN1]; cases st.ck.held <;> rfl
 rw [e3,← ok.rho,← ok.least,← ok.most];rfl
theorem bits3 (a b c:Bool):bitF (flN [a,b,c] 3) 1=a∧bitF (flN [a,b,c] 3) 2=b∧bitF (flN [a,b,c] 3) 4=c:=by
 cases a <;> cases b <;> cases c <;> decide
theorem flR_enc {c:Cfg}{fl:Fl}{st:Str}(ok:qkv c st)(r:List Int):flR c fl.t ⟨0,usB [flN [fl.out,fl.was,fl.held] 3]++(q2y [st.last]++(z0m st++r))⟩=.ok ((fl,st),⟨0,r⟩):=by
 have hf:=qx6 [fl.out,fl.was,fl.held] 3 (by decide);unfold flR;rw [qix hf.1 (by have:=hf.2; omega)];dsimp only;rw [strR_enc ok];dsimp only;obtain⟨b1,b2,b3⟩:=bits3 fl.out fl.was fl.held;rw [b1,b2,b3]
theorem agtR_enc {s0:Sta}{a:Int}{e:En}{fl:Fl}{st:Str}(ok:qkv s0.cfg st)(he:wf64 e.epoch∧wf64 e.boot∧wf64 e.time)(hs:setR s0.cfg.agents s0.rows a e=(s0.rows.set a.toNat e,0))(hf:0≤fl.t∧fl.t≤s0.now)(hf2:wf64 fl.t)(r:List Int) :
  ∃rest,agB a e fl st++r=usB [a]++rest∧agtR s0 a ⟨0,rest⟩=.ok ((s0.rows.set a.toNat e,fl,st),⟨0,r⟩):=by
 refine⟨usB [e.epoch]++(usB [e.boot]++(usB [e.time]++(usB [fl.t]++(usB [flN [fl.out,fl.was,fl.held] 3]++(q2y [st.last]++(z0m st++r)))))),?_,?_⟩
 ·unfold agB agB1 z0m;rw [q5t a,q5t e.epoch,q5t e.boot,q5t e.time,q5t fl.t];simp only [z5d]
 ·unfold agtR;rw [q2t he.1];dsimp only;rw [q2t he.2.1];dsimp only;rw [q2t he.2.2];dsimp only;have e1:(⟨e.epoch,e.boot,e.time⟩:En)=e:=rfl;rw [e1,hs,if_neg (by simp),ql9 hf hf2];dsimp only;rw [flR_enc ok]
structure qld (o:Ot):Prop where
 wc:WC o.2
 rt:q43 o.2=true
 ch:CH o.2
 win:0≤o.1.win∧o.1.win≤4611686018427387903
 ser:(q8l o.1.ser).2.2=true
 size:o.1.ser.size≤5000
theorem qsp {o:Ot}(h:qld o)(r:List Int):q8u ⟨0,ceB o++r⟩=.ok (o,⟨0,r⟩):=by
 have hc:=qfo h.wc;have hsz:(strB (q3q o.2)).size=(q3q o.2).length:=q4q _;have hs:=h.size;have e1:ceB o++r=q2y [o.1.win]++(q38 o.1.ser++(q38 (strB (q3q o.2))++r)):=by
  show cbB o.1 o.2++r=_;unfold cbB;simp [q1i]
 have hbi:q35 (strB (q3q o.2))=q3q o.2:=by
  unfold q35;rw [show (strB (q3q o.2)).data.toList=(q3q o.2).map fun n=>UInt8.ofNat n.toNat from strOfNums_data _,z68]
  apply z6n (by simp);intro i h1 h2;simp only [z6o,Function.comp];exact qi9 (quc o.2) i h2
 have t1:∀x:ByteArray,∀r:List Int,x.size < 18446744073709551616→tRes (q38 x++r).length ⟨0,q38 x++r⟩=(q35 x,⟨0,r⟩):=fun x r hx=>by
  refine qg5 ?_ hx r;unfold q38;simp only [z51];have:=q5i x;omega
 unfold q8u;have hw:=h.win;rw [e1,qc7 (by unfold wf64; omega)];dsimp only;rw [t1 _ _ (by omega)];dsimp only;rw [t1 _ _ (by omega)];dsimp only;rw [if_neg (by simp),qau,h.ser,if_neg (by simp [inM]; omega),hbi,z4o h.wc h.rt h.ch];dsimp only;rw [if_neg (by simp)]
theorem qsq {l:List Ot}(h:∀o∈l,qld o)(r:List Int):∀j,j≤l.length→q4g j ⟨0,l.flatMap ceB++r⟩=.ok (l.take j,⟨0,(l.drop j).flatMap ceB++r⟩)
 | 0,_=>rfl
 | j+1,hj=>by
  have hlt:j < l.length:=by omega
  unfold q4g;rw [qsq h r j (by omega)];dsimp only;rw [z6h hlt,z6a,z5d,qsp (h _ (z5e hlt))];dsimp only;rw [z6t,List.getElem?_eq_getElem hlt]; rfl
theorem qxj {κ α:Type}[DecidableEq κ]{k:κ}{v:α}{m:List (κ × α)}(h:q08 k m=none):mset k v m=(k,v)::m:=by
 unfold mset;rw [q17 h]
theorem qsr {most:Int}{l:List Ot}(hn:(q03 l).Nodup)(h:∀o∈l,qld o)(hm:(l.length:Int)≤most)(r:List Int):∀j,j≤l.length→q55 most j ⟨0,l.flatMap ceB++r⟩=.ok ((l.take j).reverse,⟨0,(l.drop j).flatMap ceB++r⟩)
 | 0,_=>rfl
 | j+1,hj=>by
  have hlt:j < l.length:=by omega
  have hmem:=z5e hlt;have hnot:q08 l[j].1 (l.take j).reverse=none:=q0g.2 fun hk=>by
   obtain⟨p,hp,he⟩:=z5b.1 hk;rw [List.mem_reverse] at hp;obtain⟨q,hq,rfl⟩:=z7d hp;rw [z5n] at hq;rw [List.getElem_take] at he;have h1:=List.pairwise_iff_getElem.1 hn q j (by simp [q03]; omega) (by simp [q03]; omega) (by omega);simp only [q03,z6o] at h1;exact h1 he
  unfold q55;rw [qsr hn h hm r j (by omega)];dsimp only;rw [z6h hlt,z6a,z5d,qsp (h _ hmem)];dsimp only;have hs:setS most (l.take j).reverse l[j].1 l[j].2=((l.take (j+1)).reverse,0):=by
   unfold setS;rw [hnot,if_neg (by simp),(h _ hmem).rt,if_neg (by simp),if_neg (by rw [List.length_reverse,z5n]; omega),qxj hnot,z6t,List.getElem?_eq_getElem hlt,List.reverse_append];rfl
  rw [hs,if_neg (by simp)]
end Go.Nm
