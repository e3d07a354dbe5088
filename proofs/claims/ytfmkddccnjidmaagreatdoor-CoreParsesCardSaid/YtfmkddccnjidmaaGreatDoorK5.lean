/-
  Lemmas for CoreParses: part 5 of what it rests on. Conditions: none.
-/
import Derived.Test.YtfmkddccnjidmaaGreatDoorK4
set_option linter.unusedVariables false
set_option linter.unusedSimpArgs false
set_option maxRecDepth 100000
open Go.IntKind (i64 u64 i8 u8 i32 u32 i16 u16)
namespace Go.Nm
open Go.Proofs.YtfmkddccnjidmaaGreatDoor
abbrev stepS (s:Sta)(r:Rp):Sta:=(q5q s r).1
theorem qvi {s:Sta}{r:Rp}{P:Sta × List Eff × Int→Prop}(h0:r.right=false→P (s,[],10))(h1:r.right=true→q2j s r≠0→P (s,[],q2j s r))
  (k1:r.right=true→q2j s r=0→r.kind=1→P ({ s with boots:=s.boots+1 },[],0))
  (k2:r.right=true→q2j s r=0→r.kind=2→P (qc5 s r))
  (k3:r.right=true→q2j s r=0→r.kind=3→P (ql0 s r,[],0))
  (k4:r.right=true→q2j s r=0→r.kind=4→P ((qaz s r).1,(qaz s r).2,0))
  (k5:r.right=true→q2j s r=0→r.kind=5→P (z07 s r,[],0))
  (k6:r.right=true→q2j s r=0→r.kind=6→P ((qky s r.nw).1,(qky s r.nw).2,0))
  (k7:r.right=true→q2j s r=0→r.kind=7→P (z3s s r,[],0)):P (q5q s r):=by
 unfold q5q
 split
 ·rename_i h; exact h0 h
 rename_i hR;have hR:r.right=true:=by simpa using hR
 have hL:=q3h hR
 split
 ·rename_i h; exact h1 hR h
 rename_i hf;have hf:q2j s r=0:=by simpa using hf
 split
 ·rename_i h; exact k1 hR hf h
 split
 ·rename_i h; exact k2 hR hf h
 split
 ·rename_i h; exact k3 hR hf h
 split
 ·rename_i h; exact k4 hR hf h
 split
 ·rename_i h; exact k5 hR hf h
 split
 ·rename_i h; exact k6 hR hf h
 ·rename_i q1 q2 q3 q4 q5 q6;exact k7 hR hf (by have:=hL.kind; omega)
theorem q9u {s:Sta}{r:Rp}(h1:r.kind≠1)(h7:r.kind≠7)(h:q2j s r=0):s.now≤(if r.kind=3 then r.sm.came else r.nw):=by
 unfold q2j at h;rw [if_neg h1,if_neg h7] at h;generalize (if r.kind=3 then r.sm.came else r.nw)=n at *
 unfold qkz at h
 split at h
 ·simp at h
 split at h
 ·simp at h
 ·omega
theorem qb0 {α:Type}{p:α→Bool}:∀{l:List α},l.Pairwise (fun x y=>p y=true→p x=true)→l.takeWhile p=l.filter p
 | [],_=>rfl
 | a::r,h=>by
  rw [z6s] at h;rw [List.takeWhile_cons,z6b]
  split
  ·rw [qb0 h.2]
  ·rename_i hn;exact (List.filter_eq_nil_iff.2 fun x hx hp=>hn (h.1 x hx hp)).symm
theorem qss {p:Ky × Cl}:∀{l:List Ot} {m:CM},p∈qhx m l↔p∈m∧∀o∈l,o.1≠p.1
 | [],m=>by simp [qhx]
 | o::r,m=>by
  have ih:=qss (p:=p) (l:=r) (m:=mdel o.1 m);show p∈qhx (mdel o.1 m) r↔_;rw [ih,qci];simp only [z5l,forall_eq_or_imp]
  constructor
  ·rintro⟨⟨h1,h2⟩,h3⟩; exact⟨h1,fun e=>h2 e.symm,h3⟩
  ·rintro⟨h1,h2,h3⟩; exact⟨⟨h1,fun e=>h2 e.symm⟩,h3⟩
end Go.Nm
namespace Go.Proofs.YtfmkddccnjidmaaGreatDoor
open Go.Nm Go.Sort
theorem qvj (x y:Ky):leKy x y=!(ltOf qdc) y x:=by rw [ltKy]; rfl
theorem q4c (ks:List Ky):(q2b ks).Pairwise fun x y=>leKy x y=true:=by
 unfold q2b;refine List.pairwise_mergeSort (le:=leKy) (fun x y z h1 h2=>?_) (fun x y=>?_) ks
 ·rw [qvj] at *;simp only [z5k] at *;exact swoKy.ntrans z y x h2 h1
 ·rw [qvj,qvj]
  cases h1:ltOf qdc y x with
  | false=>rfl
  | true=>
   cases h2:ltOf qdc x y with
   | false=>rfl
   | true=>have:=swoKy.trans _ _ _ h1 h2; rw [swoKy.irrefl] at this; cases this
theorem qpo {x y:Ky}(h:leKy x y=true):x.win≤y.win:=by
 unfold leKy at h;simp only [z5k,z5g,z58] at h;omega
theorem qg6 (m:CM)(b:Int):q8f m b=(q0h m).filter fun o=>decide (o.1.win < b):=by
 unfold q8f;refine qb0 ?_;unfold q0h;rw [z7n];refine (q4c _).imp fun h h2=>?_
 have:=qpo h;simp only [z52] at *;omega
theorem qpp {m:CM}{k:Ky}:(∃o∈q0h m,o.1=k)↔k∈q03 m:=by
 unfold q0h
 constructor
 ·rintro⟨o,ho,rfl⟩;obtain⟨k',hk,rfl⟩:=z5b.1 ho;exact (q1f _).mem_iff.1 hk
 ·intro h;exact⟨_,z5b.2 ⟨k,(q1f _).mem_iff.2 h,rfl⟩,rfl⟩
theorem z0n {m:CM}{b:Int}{p:Ky × Cl}:p∈qdl m b↔p∈m∧b≤p.1.win:=by
 unfold qdl;rw [qss]
 constructor
 ·rintro⟨h1,h2⟩;refine⟨h1,?_⟩;obtain⟨o,ho,he⟩:=(qpp (m:=m) (k:=p.1)).2 (z5b.2 ⟨p,h1,rfl⟩)
  rcases Int.lt_or_le p.1.win b with hlt|hge
  ·exact absurd he (h2 o (by rw [qg6]; exact List.mem_filter.2 ⟨ho,by rw [he]; exact z5m hlt⟩))
  ·exact hge
 ·rintro⟨h1,h2⟩;refine⟨h1,fun o ho he=>?_⟩
  rw [qg6] at ho;have:=z4z (List.mem_filter.1 ho).2;rw [he] at this; omega
theorem qvk {r:Rp}(h:r.right=true):r.zeros=true:=by
 unfold Rp.right at h;simp only [z56] at h;exact h.1.1.2
theorem rowE_set {rows:List En}{a:Int}{e:En}(h0:0≤a)(hl:a.toNat < rows.length):rowE (rows.set a.toNat e) a=e:=by
 unfold rowE;rw [if_neg (by omega),List.getElem?_set_self hl]; rfl
end Go.Proofs.YtfmkddccnjidmaaGreatDoor
namespace Go.Nm
open Go.Proofs.YtfmkddccnjidmaaGreatDoor
abbrev isV (t:Int):Prop:=-4611686018427387904≤t∧t≤4611686018427387903
theorem qle {g:Gd}(hg:g.ok){t:Int}(ht:isV t):q2i g t=t / g.width:=by
 have hw:1≤g.width:=hg.1;have hb:isV (t / g.width):=by
  constructor
  ·rw [Int.le_ediv_iff_mul_le (by omega)];omega
  ·rcases Int.lt_or_le t 0 with h|h
   ·have:t / g.width < 0:=Int.ediv_neg_of_neg_of_pos h (by omega);omega
   ·have:=Int.ediv_le_self g.width h;omega
 unfold q2i;rw [if_pos hg,Int.tdiv_eq_ediv,Int.tmod_eq_emod];have h0:=Int.emod_nonneg t (show g.width≠0 by omega);have h1:=Int.emod_lt_of_pos t (show 0 < g.width by omega)
 by_cases hc:0≤t∨g.width ∣ t
 ·rw [if_pos hc,if_pos hc,if_neg (by omega),w64 (by omega) (by omega)]; omega
 ·rw [if_neg hc,if_neg hc,if_pos (by omega),Int.sign_eq_one_of_pos (by omega),w64 (x:=t / g.width+1) (by omega) (by omega),w64 (by omega) (by omega)]; omega
theorem meet2_of {x:Gp}{f n:Int}(h:(qgp [x,⟨f,n⟩]).2=0):(qgp [x,⟨f,n⟩]).1.lo≤(qgp [x,⟨f,n⟩]).1.hi∧(qgp [x,⟨f,n⟩]).1.hi≤n∧f≤(qgp [x,⟨f,n⟩]).1.lo:=by
 unfold qgp qk4 at h ⊢
 split at h
 ·rename_i h1;rw [if_pos h1];unfold qk4 at h ⊢
  split at h
  ·rename_i h2;rw [if_pos h2];unfold qk4 at h ⊢
   split at h
   ·rename_i h3;rw [if_pos h3];refine⟨h3,?_,?_⟩
    ·unfold meet2; dsimp only; split <;> omega
    ·unfold meet2; dsimp only; split <;> omega
   ·simp at h
  ·simp at h
 ·simp at h
theorem qxk {ck:Ck}{fl:Fl}{now stamp:Int}(h:(q21 ck fl now stamp).2=0):(q21 ck fl now stamp).1.lo≤(q21 ck fl now stamp).1.hi∧(q21 ck fl now stamp).1.hi≤now∧fl.t≤(q21 ck fl now stamp).1.lo:=by
 unfold q21 at h ⊢
 split at h
 ·rename_i h1; exact absurd h h1
 rename_i h1;rw [if_neg h1]
 split at h
 ·simp at h
 rename_i h2;rw [if_neg h2];exact meet2_of (Decidable.not_not.1 h2)
theorem qst {p:Ky × Cl}:∀{l m:CM},p∈qhw l m→p∈l∨p∈m
 | [],m,h=>.inr h
 | q::r,m,h=>by
  rcases qst (l:=r) (m:=mset q.1 q.2 m) h with h|h
  ·exact .inl (z5j _ h)
  ·rcases q45 h with rfl|h
   ·exact .inl (z5i ..)
   ·exact .inr h
structure CelI (lo hi B:Int)(m:CM):Prop where
 win:∀p∈m,lo≤p.1.win∧p.1.win≤hi
 cnt:∀p∈m,1≤p.2.cer+p.2.pos∧p.2.cer+p.2.pos≤B
theorem qvl (ms:MS)(a t:Int):(ms.raise a t).1.value=ms.value∧(ms.raise a t).1.now=ms.now:=by
 unfold MS.raise
 split
 ·exact⟨rfl,rfl⟩
 ·split <;> exact⟨rfl,rfl⟩
theorem raise_fl {ms:MS}{a t n:Int}(h:∀p∈ms.m,p.2.t≤n)(ht:t≤n):∀p∈(ms.raise a t).1.m,p.2.t≤n:=by
 unfold MS.raise
 split
 ·exact h
 rename_i x hx
 split
 ·exact h
 intro p hp
 rcases q45 hp with rfl|hp
 ·have:=h _ (q0b hx);dsimp only at this ⊢
  split <;> omega
 ·exact h p hp
theorem z0o {g:Gd}{x:Gp}(h:(q1t g x).1≠0∨True)(hg:g.ok)(hx:x.ok):q1t g x=(q2i g x.lo,q2i g x.hi,0):=by
 unfold q1t;rw [if_pos hg,if_pos hx]
structure OpenI (s:Sta)(B:Int):Prop where
 b0:0≤B
 val:s.ms.value≤s.now
 cel:CelI (q2i s.cfg.gd s.ms.value) (q2i s.cfg.gd s.now) B s.cm
 fl:∀p∈s.ms.m,p.2.t≤s.now
 en:∀a,(rowE s.rows a).time≤s.now
 ag:s.rows.countP (fun e=>decide (0 < e.epoch))≤s.cfg.agents
theorem qc8:∀{l:List En} {i:Nat},(tab i l).length=l.countP fun e=>decide (0 < e.epoch)
 | [],i=>rfl
 | e::r,i=>by
  unfold tab;rw [List.countP_cons]
  split
  ·rename_i h;rw [z59,qc8 (l:=r),if_pos (by simpa using h)]
  ·rename_i h;rw [qc8 (l:=r),if_neg (by simpa using h)]; rfl
theorem qsu {p:En→Bool}{x:En}:∀{l:List En} {k:Nat} (hk:k < l.length),(l.set k x).countP p≤l.countP p+(if p l[k] then 0 else 1)
 | a::r,0,_=>by
  simp only [z7g,List.getElem_cons_zero];rw [List.countP_cons,List.countP_cons]
  by_cases h1:p x=true <;> by_cases h2:p a=true <;> simp [h1,h2]
 | a::r,k+1,h=>by
  have ih:=qsu (p:=p) (x:=x) (l:=r) (k:=k) (by simpa using h);simp only [z7w,List.getElem_cons_succ];rw [List.countP_cons,List.countP_cons];omega
theorem open_ag {s:Sta}{a:Int}{x:En}{rows':List En}(ok:q2z s)(h2:s.rows.countP (fun e=>decide (0 < e.epoch))≤s.cfg.agents)(ha:0≤a∧a≤63)(hf:¬((rowE s.rows a).epoch=0∧full s.cfg.agents s.rows))(g2:rows'=s.rows.set a.toNat x) :
  rows'.countP (fun e=>decide (0 < e.epoch))≤s.cfg.agents:=by
 have hltr:a.toNat < s.rows.length:=by rw [ok.rows.len]; omega
 rw [g2];have h1:=qsu (p:=fun e=>decide (0 < e.epoch)) (x:=x) hltr
 have h3:rowE s.rows a=s.rows[a.toNat]:=by
  unfold rowE;rw [if_neg (by omega),List.getElem?_eq_getElem hltr]; rfl
 by_cases h4:0 < s.rows[a.toNat].epoch
 ·rw [if_pos (by simpa using h4)] at h1;omega
 ·rw [if_neg (by simpa using h4)] at h1;have h5:=(ok.rows.at a).1;rw [h3] at h5;have h6:¬full s.cfg.agents s.rows:=fun hh=>hf ⟨by rw [h3]; omega,hh⟩
  unfold full at h6;rw [qc8] at h6;omega
theorem z4r {lim n:Int}{m:FM}(hm:∀p∈m,p.2.t≤n)(hn:0≤n):∀(ks:List Int) (s:Int × Bool),s.1≤n→(qdd lim m ks s).1≤n
 | [],s,h=>h
 | k::r,s,h=>by
  refine z4r hm hn r _ ?_;unfold qlr
  split
  ·cases hk:q08 k m with
   | none=>simp only [Option.getD_none,Fl.z]; exact hn
   | some x=>simp only [Option.getD_some]; exact hm _ (q0b hk)
  ·exact h
theorem open_new {c:Cfg}(ok:qde c):OpenI (newS c) 0 where
 b0:=z5z _
 val:=by have:=ok.lag; show -c.lag≤0; omega
 cel:=⟨fun p hp=>absurd hp (by simp [newS]),fun p hp=>absurd hp (by simp [newS])⟩
 fl:=fun p hp=>absurd hp (by simp [newS,MS.new])
 en:=fun a=>by
  unfold rowE newS;dsimp only
  split
  ·exact z5z _
  ·rw [List.getElem?_replicate]
   split <;> exact z5z _
 ag:=by
  have:=ok.ag;unfold newS;dsimp only;rw [List.countP_replicate];simp [En.z]; omega
open Go.Proofs.YtfmkddccnjidmaaGreatDoor
structure Rch (s:Sta):Prop where
 ok:q2z s
 sunk:s.sunk≤1099511627776
 mnow:0≤s.ms.now∧s.ms.now≤s.now
 val:s.ms.now - s.cfg.lag≤s.ms.value∧s.ms.value≤s.ms.now
 keys:∀a,(q08 a s.ms.m).isSome=decide (0 < (rowE s.rows a).epoch)
 fl:∀p∈s.ms.m,p.2.t≤s.now
 rows:∀a,0 < (rowE s.rows a).epoch→(1≤(rowE s.rows a).boot∧(rowE s.rows a).boot≤1099511627776)∧0≤(rowE s.rows a).time∧(rowE s.rows a).time≤4611686018427387903
 ag:s.rows.countP (fun e=>decide (0 < e.epoch))≤s.cfg.agents
 cm:∀p∈s.cm,qld p
 kept:∀o∈s.kept,qld o
theorem qiz (e:En)(r:List En)(i:Nat):tab i (e::r)=(if 0 < e.epoch then [((i:Int),e)] else [])++tab (i+1) r:=by
 conv=>lhs; unfold tab
 split <;> rfl
theorem qda:∀(a b:List En) (i:Nat),tab i (a++b)=tab i a++tab (i+a.length) b
 | [],b,i=>rfl
 | e::r,b,i=>by
  have ih:=qda r b (i+1);have e1:i+1+r.length=i+(e::r).length:=by simp only [z59]; omega
  rw [e1] at ih;rw [z7b,qiz,qiz,ih,z5d]
theorem qxl:∀(n i:Nat),tab i (List.replicate n En.z)=[]
 | 0,i=>rfl
 | n+1,i=>by
  rw [List.replicate_succ];unfold tab;rw [if_neg (by simp [En.z]),qxl n (i+1)]
theorem qxm {rows:List En}{k:Nat}(hk:k < rows.length):tab k (rows.drop k)=(if 0 < rows[k].epoch then [((k:Int),rows[k])] else [])++tab (k+1) (rows.drop (k+1)):=by
 rw [z6h hk,qiz]
theorem qpq {rows:List En}{k:Nat}(hk:k < rows.length):tab 0 (rows.take (k+1))=tab 0 (rows.take k)++(if 0 < rows[k].epoch then [((k:Int),rows[k])] else []):=by
 rw [z6t,List.getElem?_eq_getElem hk,qda];congr 1;rw [z5n,z74 (by omega),z5p];show tab k [rows[k]]=_;rw [qiz];exact z61 _
def cutR (rows:List En)(k:Nat):List En:=rows.take k++List.replicate (64 - k) En.z
def cutT (sts:List (Option Str))(k:Nat):List (Option Str):=sts.take k++List.replicate (64 - k) none
def flsK (s:Sta)(k:Nat):FM:=((tab 0 (s.rows.take k)).map fun p=>(p.1,flOf s.ms p.1)).reverse
theorem z4s {α:Type}{l:List α}{z:α}{k:Nat}(hl:l.length=64)(hk:k < 64):(l.take k++List.replicate (64 - k) z).set k (l[k]'(by omega))=l.take (k+1)++List.replicate (64 - (k+1)) z:=by
 have e:List.replicate (64 - k) z=z::List.replicate (64 - (k+1)) z:=by
  rw [← List.replicate_succ]; congr 1; omega
 rw [e,List.set_append_right _ _ (by rw [z5n]; omega),z5n,z74 (by omega),Nat.sub_self,z7g,z6t,List.getElem?_eq_getElem (by omega),z5d];rfl
theorem qxn {α:Type}{l:List α}{z:α}{k:Nat}(hl:l.length=64)(hk:k < 64)(h:l[k]'(by omega)=z):l.take (k+1)++List.replicate (64 - (k+1)) z=l.take k++List.replicate (64 - k) z:=by
 have e:List.replicate (64 - k) z=z::List.replicate (64 - (k+1)) z:=by
  rw [← List.replicate_succ]; congr 1; omega
 rw [e,z6t,List.getElem?_eq_getElem (by omega)];simp [h]
theorem qpr {rows:List En}{k:Nat}(hk:k < rows.length):rowE rows (k:Int)=rows[k]:=by
 unfold rowE;rw [if_neg (by omega),z5a,List.getElem?_eq_getElem hk]; rfl
theorem rowE_cut {rows:List En}{k:Nat}(hl:rows.length=64)(hk:k < 64):rowE (cutR rows k) (k:Int)=En.z:=by
 unfold rowE cutR;rw [if_neg (by omega),z5a,List.getElem?_append_right (by rw [z5n]; omega),List.getElem?_replicate]
 split <;> rfl
theorem Rch.count {s:Sta}(R:Rch s):((tab 0 s.rows).length:Int)≤s.cfg.agents:=by rw [qc8]; exact R.ag
theorem z0p {s:Sta}(k:Nat):(tab 0 (s.rows.take k)).length+(tab k (s.rows.drop k)).length=(tab 0 s.rows).length:=by
 rcases z5r k s.rows.length with h|h
 ·have:=qda (s.rows.take k) (s.rows.drop k) 0;rw [z7o,z5n,z74 (by omega),z5p] at this;rw [this,z51]
 ·rw [z5o h,z7v h]; rfl
theorem flsK_new {s:Sta}(k:Nat):q08 (k:Int) (flsK s k)=none:=q0g.2 fun hm=>by
 obtain⟨p,hp,he⟩:=z5b.1 hm;unfold flsK at hp;rw [List.mem_reverse] at hp;obtain⟨q,hq,rfl⟩:=z5b.1 hp;have:=(q95 hq).2.1;rw [z5n] at this;dsimp only at he;omega
theorem Rch.str {s:Sta}(R:Rch s){k:Nat}(hk:k < 64)(h:0 < (s.rows[k]'(by rw [R.ok.rows.len]; exact hk)).epoch):∃st,s.sts[k]?=some (some st)∧q8t s (k:Int)=some st:=by
 obtain⟨st,hst⟩:=(R.ok.reg k).2 ⟨_,List.getElem?_eq_getElem (by rw [R.ok.rows.len]; exact hk),h⟩;refine⟨st,hst,?_⟩;unfold q8t;rw [if_neg (by omega),z5a,hst]; rfl
theorem Rch.nostr {s:Sta}(R:Rch s){k:Nat}(hk:k < 64)(h:¬0 < (s.rows[k]'(by rw [R.ok.rows.len]; exact hk)).epoch):s.sts[k]'(by rw [R.ok.len]; exact hk)=none:=by
 have hlt:k < s.sts.length:=by rw [R.ok.len]; exact hk
 cases e:s.sts[k] with
 | none=>rfl
 | some st=>
  obtain⟨e',h1,h2⟩:=(R.ok.reg k).1 ⟨st,by rw [List.getElem?_eq_getElem hlt,e]⟩;rw [List.getElem?_eq_getElem (by rw [R.ok.rows.len]; exact hk)] at h1
  cases h1
  exact absurd h2 h
theorem Rch.flat {s:Sta}(R:Rch s)(a:Int):isT (flOf s.ms a).t∧(flOf s.ms a).t≤s.now:=by
 have h0:=R.ok.now;unfold flOf
 cases h:q08 a s.ms.m with
 | none=>exact⟨by show isT 0; decide,by show (0:Int)≤_; exact h0.1⟩
 | some x=>
  have:=q0b h;exact⟨(R.ok.ms.rows _ this).2,R.fl _ this⟩
theorem qxo {s s0:Sta}(R:Rch s)(h0:s0.cfg=s.cfg)(h1:s0.now=s.now)(h2:s0.rows=List.replicate 64 En.z)(h3:s0.sts=List.replicate 64 none)(r:List Int):∀k,k≤64→
  agsR s0 (tab 0 (s.rows.take k)).length ⟨0,(tab 0 s.rows).flatMap (agOf s)++r⟩=.ok (⟨cutR s.rows k,cutT s.sts k,flsK s k⟩,⟨0,(tab k (s.rows.drop k)).flatMap (agOf s)++r⟩)
 | 0,_=>by
  show Except.ok _=_;rw [h2,h3]; rfl
 | k+1,hk=>by
  have hl:=R.ok.rows.len;have hls:=R.ok.len;have hlt:k < s.rows.length:=by omega
  have ih:=qxo R h0 h1 h2 h3 r k (by omega);rw [qpq hlt];rw [qxm hlt] at ih
  by_cases he:0 < s.rows[k].epoch
  ·rw [if_pos he] at ih ⊢;rw [z51,z6x];obtain⟨st,hst,hat⟩:=R.str (by omega) he;have hsok:=R.ok.sts st (z5w hst);have hrow:=R.rows (k:Int) (by rw [qpr hlt]; exact he);rw [qpr hlt] at hrow;have hre:=R.ok.rows.at (k:Int);rw [qpr hlt] at hre;have hfl:=R.flat (k:Int);have hcnt:(tab 0 (s.rows.take k)).length < (tab 0 s.rows).length:=by
    have:=z0p (s:=s) k;rw [qxm hlt,if_pos he,z51,z6x] at this;omega
   have hag:=R.count;have hset:setR s.cfg.agents (cutR s.rows k) (k:Int) s.rows[k]=((cutR s.rows k).set ((k:Int)).toNat s.rows[k],0):=by
    unfold setR;rw [if_neg (by unfold bad; omega),rowE_cut hl (by omega),if_neg (by simp [En.z]),if_neg];unfold full cutR;rw [qda,qxl,z61];omega
   obtain⟨rest,e1,e2⟩:=agtR_enc (s0:={ s0 with rows:=cutR s.rows k,sts:=cutT s.sts k }) (a:=(k:Int)) (e:=s.rows[k]) (fl:=flOf s.ms (k:Int)) (st:=st) (by rw [h0]; exact hsok) ⟨by unfold wf64; omega,by unfold wf64; omega,by unfold wf64; omega⟩ (by rw [h0]; exact hset) (by rw [h1]; exact⟨hfl.1.1,hfl.2⟩) (by have:=hfl.1; unfold wf64; omega) ((tab (k+1) (s.rows.drop (k+1))).flatMap (agOf s)++r);have e3:([((k:Int),s.rows[k])]++tab (k+1) (s.rows.drop (k+1))).flatMap (agOf s)++r=usB [(k:Int)]++rest:=by
    rw [z7z,← e1,z5d];congr 1;show agOf s ((k:Int),s.rows[k])++[]=_;unfold agOf;dsimp only;rw [hat,z61]
   rw [e3] at ih;unfold agsR;rw [ih];dsimp only;rw [q2t (by unfold wf64; omega)];dsimp only;rw [e2];dsimp only;rw [z5a,qxj (flsK_new k)];have c1:(cutR s.rows k).set k s.rows[k]=cutR s.rows (k+1):=z4s hl (by omega);have c2:(cutT s.sts k).set k (some st)=cutT s.sts (k+1):=by
    have:=z4s (z:=none) hls (show k < 64 by omega);have e4:s.sts[k]'(by omega)=some st:=by
     rw [List.getElem?_eq_getElem (by omega)] at hst;exact Option.some.inj hst
    rw [e4] at this;exact this
   have c3:((k:Int),flOf s.ms (k:Int))::flsK s k=flsK s (k+1):=by
    unfold flsK;rw [qpq hlt,if_pos he,z5v,List.reverse_append]; rfl
   rw [c1,c2,c3]
  ·rw [if_neg he] at ih ⊢;rw [z61];rw [z6l] at ih;rw [ih];have c1:cutR s.rows (k+1)=cutR s.rows k:=qxn hl (by omega) (R.ok.rows.zero _ (z5e hlt) he);have c2:cutT s.sts (k+1)=cutT s.sts k:=qxn hls (by omega) (R.nostr (by omega) he);have c3:flsK s (k+1)=flsK s k:=by
    unfold flsK;rw [qpq hlt,if_neg he,z61]
   rw [c1,c2,c3]
theorem Rch.nStr {s:Sta}(R:Rch s):nStr s=(tab 0 s.rows).length:=by
 have hm:s.sts.map Option.isSome=s.rows.map fun e=>decide (0 < e.epoch):=by
  apply z6n
  ·simp [R.ok.len,R.ok.rows.len]
  ·intro k h1 h2;have hk:k < 64:=by rw [z5q,R.ok.len] at h1; exact h1
   simp only [z6o]
   by_cases he:0 < (s.rows[k]'(by rw [R.ok.rows.len]; exact hk)).epoch
   ·obtain⟨st,hst,_⟩:=R.str hk he;rw [List.getElem?_eq_getElem (by rw [R.ok.len]; exact hk)] at hst;rw [Option.some.inj hst];simp [he]
   ·rw [R.nostr hk he];simp [he]
 unfold Go.Nm.nStr;rw [qc8,← List.countP_eq_length_filter];have h1:s.sts.countP Option.isSome=(s.sts.map Option.isSome).countP id:=by rw [List.countP_map]; rfl
 have h2:s.rows.countP (fun e=>decide (0 < e.epoch))=(s.rows.map fun e=>decide (0 < e.epoch)).countP id:=by rw [List.countP_map]; rfl
 rw [h1,h2,hm]
def q9v (s:Sta):Sta:={ s with ms:={ s.ms with m:=flsK s 64 },cm:=(q0h s.cm).reverse }
theorem qnm (m:CM):q03 (q0h m)=q2b (q03 m):=by
 unfold q0h q03;rw [z68];have:((fun x:Ky × Cl=>x.1)∘fun k=>(k,q20 m k))=id:=rfl
 rw [this,List.map_id]
theorem qsv {m:CM}{o:Ot}(h:o∈q0h m):o∈m:=by
 unfold q0h at h;obtain⟨k,hk,rfl⟩:=z5b.1 h;have hk:=(q1f _).mem_iff.1 hk;unfold q20
 cases e:q08 k m with
 | none=>exact absurd hk (q0g.1 e)
 | some c=>exact q0b e
theorem outsL_nd {m:CM}(h:(q03 m).Nodup):(q03 (q0h m)).Nodup:=by
 rw [qnm];exact (q1f _).nodup_iff.2 h
theorem z0q {s:Sta}(R:Rch s)(hkept:s.kept.length≤1000000000):q5y s.cfg (stB s)=.ok (q9v s):=by
 have hnow:=R.ok.now;have hboots:=R.ok.boots;have hsunk:=R.sunk;have hsunk0:=R.ok.sunk;have hmn:=R.mnow;have hv:=R.val;have hlag:=R.ok.cfg.lag;have hshl:=R.ok.sh.len;have hsh2:=R.ok.sh.m2;have hag:=R.count;have hag2:=R.ok.cfg.ag;have hcl:(q0h s.cm).length=s.cm.length:=q9k s.cm;have hkl:∀o∈q0h s.cm,qld o:=fun o ho=>R.cm o (qsv ho)
 have e:stB s=usB [s.now]++(usB [s.boots]++(usB [s.sunk]++(usB [s.ms.now]++(q2y [s.ms.value]++(usB [(((tab 0 s.rows).length:Nat):Int)]++((tab 0 s.rows).flatMap (agOf s)++(usB [((s.cm.length:Nat):Int)]++((q0h s.cm).flatMap ceB++(usB [((s.kept.length:Nat):Int)]++(s.kept.flatMap ceB++[])))))))))):=by
  unfold stB stB3 stB2 stB1;rw [R.nStr,q5t s.now,q5t s.boots,q5t s.sunk];simp only [z5d,z61]
 unfold q5y;rw [e,ql9 hnow (by unfold wf64; omega)];dsimp only;rw [ql9 hboots (by unfold wf64; omega)];dsimp only;rw [ql9 ⟨hsunk0,hsunk⟩ (by unfold wf64; omega)];dsimp only;rw [ql9 hmn (by unfold wf64; omega)];dsimp only;rw [qc7 (by unfold wf64; omega)];dsimp only;rw [q9t (by omega) (by omega)];dsimp only;have ha:=qxo (s0:={ newS s.cfg with now:=s.now,boots:=s.boots,sunk:=s.sunk }) R rfl rfl rfl rfl (usB [((s.cm.length:Nat):Int)]++((q0h s.cm).flatMap ceB++(usB [((s.kept.length:Nat):Int)]++(s.kept.flatMap ceB++[])))) 64 (z5c _);rw [z5o (by rw [R.ok.rows.len]; omega),z7v (by rw [R.ok.rows.len]; omega)] at ha;rw [z5a,ha];dsimp only;rw [if_neg (fun hh=>hh hv)]
 have e2:(tab 64 ([]:List En)).flatMap (agOf s)++(usB [((s.cm.length:Nat):Int)]++((q0h s.cm).flatMap ceB++(usB [((s.kept.length:Nat):Int)]++(s.kept.flatMap ceB++[]))))=usB [((s.cm.length:Nat):Int)]++((q0h s.cm).flatMap ceB++(usB [((s.kept.length:Nat):Int)]++(s.kept.flatMap ceB++[]))):=rfl;rw [e2,q9t (by omega) (by omega)];dsimp only;have hc:=qsr (most:=s.cfg.cells) (outsL_nd R.ok.sh.nd) hkl (by rw [hcl]; exact hshl) (usB [((s.kept.length:Nat):Int)]++(s.kept.flatMap ceB++[])) (q0h s.cm).length (z5c _);rw [z6p,z6z] at hc;rw [z5a,← hcl,hc];dsimp only;have e3:([]:List Ot).flatMap ceB++(usB [((s.kept.length:Nat):Int)]++(s.kept.flatMap ceB++[]))=usB [((s.kept.length:Nat):Int)]++(s.kept.flatMap ceB++[]):=rfl;rw [e3,qix (by omega) (by omega)];dsimp only;have hk:=qsq R.kept [] s.kept.length (z5c _);rw [z6p,z6z] at hk;rw [z5a,hk];dsimp only;rw [show (q2f ⟨0,([]:List Ot).flatMap ceB++[]⟩).e=0 from rfl,if_neg (by simp)];have h1:cutR s.rows 64=s.rows:=by
  unfold cutR;rw [z5o (by rw [R.ok.rows.len]; omega)]; simp
 have h2:cutT s.sts 64=s.sts:=by
  unfold cutT;rw [z5o (by rw [R.ok.len]; omega)]; simp
 rw [h1,h2,← R.ok.lag];rfl
theorem z4t {ks ls:List Ky}(h:ks.Perm ls):q2b ks=q2b ls:=by
 refine List.Perm.eq_of_pairwise (le:=fun x y=>leKy x y=true) (fun a b _ _ h1 h2=>?_) (q4c ks) (q4c ls) ((q1f ks).trans (h.trans (q1f ls).symm))
 have w1:=qpo h1;have w2:=qpo h2;have hw:a.win=b.win:=by omega
 unfold leKy at h1 h2;simp only [z5k,z5g,z6k,z58] at h1 h2;have s1:=h1.2.resolve_left (fun hh=>hh hw.symm)
 have s2:=h2.2.resolve_left (fun hh=>hh hw)
 rw [Go.Proofs.bytesLess_eq,z58] at s1 s2;have:a.ser.toList=b.ser.toList:=List.le_antisymm s1 s2;obtain⟨aw,sa⟩:=a;obtain⟨bw,sb⟩:=b;dsimp only at hw this;rw [ByteArray.toList_eq,ByteArray.toList_eq] at this;have hs:sa=sb:=qng this;rw [hw,hs]
theorem z0r {m m':CM}(hn:(q03 m).Nodup)(h:m.Perm m'):q0h m=q0h m':=by
 unfold q0h;rw [z4t (h.map Prod.fst:(q03 m).Perm (q03 m'))];apply z73;intro k _;unfold q20;rw [q62 hn h]
theorem z0s {m:CM}(hn:(q03 m).Nodup):(q0h m).Perm m:=by
 have h1:(q03 (q0h m)).Perm (q03 m):=by rw [qnm]; exact q1f _
 have h2:q0h m=(q2b (q03 m)).map fun k=>(k,q20 m k):=rfl
 rw [h2];refine ((q1f (q03 m)).map _).trans ?_;have:(q03 m).map (fun k=>(k,q20 m k))=m:=by
  unfold q03;rw [z68]
  conv=>rhs; rw [← List.map_id m]
  apply z73;intro p hp;show (p.1,q20 m p.1)=p;unfold q20;rw [q2k hn hp];rfl
 rw [this]
theorem z4u {s:Sta}(R:Rch s)(a:Int):q08 a (flsK s 64)=if 0 < (rowE s.rows a).epoch then some (flOf s.ms a) else none:=by
 have hlen:=R.ok.rows.len;have hperm:((tab 0 s.rows).map fun p=>(p.1,flOf s.ms p.1)).Perm (flsK s 64):=by
  unfold flsK;rw [z5o (by omega)];exact (List.reverse_perm _).symm
 have hk:q03 ((tab 0 s.rows).map fun p=>(p.1,flOf s.ms p.1))=q03 (tab 0 s.rows):=by simp [q03,Function.comp_def]
 rw [← q62 (by rw [hk]; exact qfr) hperm];have:=qft (f:=fun (k:Int) (_:En)=>flOf s.ms k) (k:=a) (m:=tab 0 s.rows)
 rw [this,qp9]
 split <;> rfl
theorem flsK_nd (s:Sta)(k:Nat):(q03 (flsK s k)).Nodup:=by
 unfold flsK;have:q03 (((tab 0 (s.rows.take k)).map fun p=>(p.1,flOf s.ms p.1)).reverse)=(q03 (tab 0 (s.rows.take k))).reverse:=by simp [q03,Function.comp_def]
 rw [this];exact List.pairwise_reverse.2 (qfr.imp fun h=>h.symm)
theorem qg7 {κ α:Type}{m:List (κ × α)}(h:(q03 m).Nodup):m.Nodup:=List.Pairwise.of_map Prod.fst (fun a b hab e=>hab (by rw [e])) h
theorem qsw {κ α:Type}[DecidableEq κ][DecidableEq α]{m m':List (κ × α)}(h:(q03 m).Nodup)(h':(q03 m').Nodup)(he:∀k,q08 k m=q08 k m'):m.Perm m':=by
 refine (List.perm_ext_iff_of_nodup (qg7 h) (qg7 h')).2 fun p=>⟨fun hp=>?_,fun hp=>?_⟩
 ·have:=q2k h hp;rw [he] at this;exact q0b this
 ·have:=q2k h' hp;rw [← he] at this;exact q0b this
theorem qg8 {s:Sta}(R:Rch s):s.ms.m.Perm (q9v s).ms.m∧s.cm.Perm (q9v s).cm:=by
 refine⟨qsw R.ok.ms.nd (flsK_nd s 64) fun a=>?_,?_⟩
 ·show q08 a s.ms.m=q08 a (flsK s 64);rw [z4u R];have hkey:=R.keys a;unfold flOf
  cases h:q08 a s.ms.m with
  | none=>
   rw [h] at hkey;rw [if_neg (by intro he; rw [z5m he] at hkey; simp at hkey)]
  | some x=>
   rw [h] at hkey;rw [if_pos (by
    by_cases he:0 < (rowE s.rows a).epoch
    ·exact he
    ·rw [z6m he] at hkey; simp at hkey)]
   rfl
 ·exact ((z0s R.ok.sh.nd).symm.trans (List.reverse_perm _).symm)
theorem z4v {s:Sta}(R:Rch s)(a:Int):flOf (q9v s).ms a=flOf s.ms a:=by
 have:=q62 (x:=a) R.ok.ms.nd (qg8 R).1;unfold flOf;rw [← this]
theorem norm_cm {s:Sta}(R:Rch s):q0h (q9v s).cm=q0h s.cm:=(z0r R.ok.sh.nd (qg8 R).2).symm
theorem z0t {s:Sta}(R:Rch s):stB (q9v s)=stB s:=by
 have h1:∀p,agOf (q9v s) p=agOf s p:=by
  intro p;unfold agOf;have:q8t (q9v s) p.1=q8t s p.1:=rfl;rw [this]
  cases q8t s p.1 with
  | none=>rfl
  | some st=>dsimp only; rw [z4v R]
 have h2:(q9v s).cm.length=s.cm.length:=(qg8 R).2.length_eq.symm;unfold stB stB3 stB2 stB1;rw [norm_cm R,h2];have h3:(tab 0 (q9v s).rows).flatMap (agOf (q9v s))=(tab 0 s.rows).flatMap (agOf s):=by
  show (tab 0 s.rows).flatMap _=_;congr 1;funext p;exact h1 p
 rw [h3];rfl
open Go.Proofs.YtfmkddccnjidmaaGreatDoor
structure qh5 (o:Ot):Prop where
 ch:CH o.2
 win:0≤o.1.win∧o.1.win≤4611686018427387903
 ser:(q8l o.1.ser).2.2=true
 size:o.1.ser.size≤5000
theorem qld.l {o:Ot}(h:qld o):qh5 o:=⟨h.ch,h.win,h.ser,h.size⟩
theorem qh5.g {o:Ot}(h:qh5 o)(wc:WC o.2)(rt:q43 o.2=true):qld o:=⟨wc,rt,h.ch,h.win,h.ser,h.size⟩
theorem CH.z:CH Cl.z:=fun i _=>rfl
theorem CH.note {c:Cl}(h:CH c)(b:Bool):CH (q98 c b).1:=by
 unfold q98
 split
 ·exact CH.z
 split
 ·split
  ·exact CH.z
  ·exact h
 ·split
  ·exact CH.z
  ·exact h
theorem CH.add {c:Cl}(h:CH c){v:Int}(hv:wf64 v):CH (addC c v).1:=by
 unfold addC
 split
 ·exact CH.z
 split
 ·exact CH.z
 split
 ·exact CH.z
 split
 ·exact CH.z
 rename_i h0;intro i hi;dsimp only;have h0:(addH c.h v).2=0:=Decidable.not_not.1 h0;unfold addH at h0 ⊢
 split at h0
 ·simp at h0
 rename_i h1;rw [if_neg h1]
 split at h0
 ·simp at h0
 rename_i h2;rw [if_neg h2];have:=q7a hv;dsimp only;unfold updN;rw [if_neg (by omega)];exact h i hi
theorem qxp {B:Nat}:∀{ps:List (List UInt8)},(∀p∈ps,p.length≤B)→(Go.Lib.join ps [44]).length≤(B+1)*ps.length
 | [],_=>by simp [Go.Lib.join_nil]
 | [p],h=>by rw [Go.Lib.join_one]; have:=h p (z5i ..); simp; omega
 | p::q::r,h=>by
  have ih:=qxp (ps:=q::r) fun x hx=>h x (z5j _ hx)
  have:=h p (z5i ..);rw [join2,z51,z59];simp only [z59,Nat.mul_succ] at *;omega
theorem z4w {name:ByteArray}{labs:List Lab}(h:q4i name labs=true):(q8h name labs).size≤5000:=by
 have hp:=q92 h;have hn:=q6r hp.named;unfold q8h;rw [if_pos h]
 split
 ·omega
 ·have hj:=qxp (ps:=(labs.map q7b).map lsB) (B:=129) (by
   intro p hp';obtain⟨b,hb,rfl⟩:=z5b.1 hp';obtain⟨l,hl,rfl⟩:=z5b.1 hb;have:=q6s (hp.val l hl);rw [qiy,z51,z59,q6o,q6o];omega)
  rw [z5q,z5q] at hj;have h8:=hp.len;rw [← q6o,q5c,q5c,q5c];have ej:lsB (qe6 labs)=Go.Lib.join ((labs.map q7b).map lsB) [44]:=qla _;simp only [z51,ej];rw [q6o];have e1:(lsB (⟨#[123]⟩:ByteArray)).length=1:=rfl;have e2:(lsB (⟨#[125]⟩:ByteArray)).length=1:=rfl;rw [e1,e2];omega
structure SerG (ser:ByteArray):Prop where
 ok:(q8l ser).2.2=true
 size:ser.size≤5000
theorem serG_of {e:Pv}(h:q9a e=true):SerG (q8h e.name e.labs):=by
 obtain⟨_,h2⟩:=qxi h;exact⟨by rw [z0k h2],z4w h2⟩
theorem note_L {most first last:Int}{m:CM}{ser:ByteArray}(h:∀p∈m,qh5 p)(hs:SerG ser)(h1:0≤first)(h2:last≤4611686018427387903):∀p∈(qe4 most m first last ser).1,qh5 p:=by
 unfold qe4
 split
 ·exact h
 split
 ·exact h
 split
 ·exact h
 intro p hp
 rcases qst hp with hp|hp
 ·obtain⟨w,hw,e1,e2,e3⟩:=qkt hp;unfold wins at hw;obtain⟨i,hi',rfl⟩:=z5b.1 hw;have hi':=z6q.1 hi';have hc:CH (q20 m ⟨first+(i:Int),ser⟩):=by
   unfold q20
   cases hm:q08 (⟨first+(i:Int),ser⟩:Ky) m with
   | none=>exact CH.z
   | some c=>exact (h _ (q0b hm)).ch
  exact⟨by rw [e2]; exact hc.note _,by rw [e1]; dsimp only; omega,by rw [e1]; exact hs.ok,by rw [e1]; exact hs.size⟩
 ·exact h p hp
theorem count_L {m:CM}{k:Ky}{v:Int}(h:∀p∈m,qh5 p)(hv:wf64 v):∀p∈(qbw m k v).1,qh5 p:=by
 unfold qbw
 split
 ·exact h
 rename_i c hc
 split
 ·exact h
 intro p hp
 rcases q45 hp with rfl|hp
 ·have:=h (k,c) (q0b hc);exact⟨this.ch.add hv,this.win,this.ser,this.size⟩
 ·exact h p hp
structure MsJ (lim:Int)(ms ms':MS):Prop where
 now:ms'.now=ms.now
 value:ms'.value=ms.value
 keys:∀a,(q08 a ms'.m).isSome=(q08 a ms.m).isSome
 fl:∀p∈ms'.m,p.2.t≤lim
theorem z4x {now:Int}{ms:MS}{a t:Int}(h:∀p∈ms.m,p.2.t≤now)(ht:t≤now):MsJ now ms (ms.raise a t).1:=by
 have r1:=qvl ms a t;refine⟨r1.2,r1.1,fun b=>?_,raise_fl h ht⟩
 unfold MS.raise
 split
 ·rfl
 rename_i x hx
 split
 ·rfl
 dsimp only;rw [qck]
 split
 ·rename_i e; rw [e,hx]; rfl
 ·rfl
theorem MsJ.trans {now:Int}{a b c:MS}(h:MsJ now a b)(h2:MsJ now b c):MsJ now a c:=⟨h2.now.trans h.now,h2.value.trans h.value,fun k=>(h2.keys k).trans (h.keys k),h2.fl⟩
theorem flOf_lo {ms:MS}(h:MOk ms)(a:Int):0≤(flOf ms a).t:=by
 unfold flOf
 cases e:q08 a ms.m with
 | none=>exact z5z _
 | some x=>exact (h.rows _ (q0b e)).2.1
theorem judgeS_J {c:Cfg}{now a:Int}{st:Str}{ms:MS}{cm:CM}{e:Pv}(hg:c.gd.ok)(hn:isT now)(hm:MOk ms)(he:q9a e=true)(hv:wf64 e.value)(hf:∀p∈ms.m,p.2.t≤now)(hc:∀p∈cm,qh5 p) :
  MsJ now ms (q2g c now a st ms cm e).ms∧∀p∈(q2g c now a st ms cm e).cm,qh5 p:=by
 have same:MsJ now ms ms:=⟨rfl,rfl,fun _=>rfl,hf⟩
 unfold q2g
 split
 ·exact⟨same,hc⟩
 split
 ·exact⟨same,hc⟩
 rename_i h1 h2;have h2:(q21 st.ck (flOf ms a) now e.stamp).2=0:=Decidable.not_not.1 (not_or.1 h2).1;obtain⟨t1,t2,t3⟩:=qxk h2;have hlo:=flOf_lo hm a;generalize q21 st.ck (flOf ms a) now e.stamp=T at *;have r:=z4x (a:=a) (t:=T.1.lo) hf (by omega)
 split
 ·exact⟨r,hc⟩
 have w:=z0o (g:=c.gd) (x:=T.1) (.inr trivial) hg t1;rw [w];dsimp only;have w0:0≤q2i c.gd T.1.lo:=by
  rw [qle hg (by unfold isV isT at *; omega)];exact Int.ediv_nonneg (by omega) (by have:=hg.1; omega)
 have w1:q2i c.gd T.1.hi≤4611686018427387903:=by
  rw [qle hg (by unfold isV isT at *; omega)];have:=Int.ediv_le_self (a:=T.1.hi) c.gd.width (by omega);unfold isT at hn;omega
 have N:=note_L (most:=c.cells) (ser:=q8h e.name e.labs) hc (serG_of he) w0 w1
 split
 ·exact⟨r,N⟩
 split
 ·exact⟨r,N⟩
 ·exact⟨r,count_L N hv⟩
theorem qxq {c:Cfg}{now a ep first:Int}{evs:List Pv}{x:JS}(hg:c.gd.ok)(hn:isT now)(hm:MOk x.ms)(he:∀e∈evs,q9a e=true∧wf64 e.value)(hf:∀p∈x.ms.m,p.2.t≤now)(hc:∀p∈x.cm,qh5 p):∀n,n≤evs.length→
  MOk (q2s c now a ep first evs x n).1.ms∧MsJ now x.ms (q2s c now a ep first evs x n).1.ms∧∀p∈(q2s c now a ep first evs x n).1.cm,qh5 p
 | 0,_=>⟨hm,⟨rfl,rfl,fun _=>rfl,hf⟩,hc⟩
 | n+1,hl=>by
  obtain⟨i1,i2,i3⟩:=qxq (ep:=ep) (first:=first) (a:=a) hg hn hm he hf hc n (by omega);have hev:=he (evs.getD n Pv.z) (by rw [qal _ (by omega)]; exact z5e _);have hj:=judgeS_J (a:=a) (st:=(q2s c now a ep first evs x n).1.st) (e:=evs.getD n Pv.z) hg hn i1 hev.1 hev.2 i2.fl i3;have hm:=qs2 (c:=c) (now:=now) (a:=a) (st:=(q2s c now a ep first evs x n).1.st) (cm:=(q2s c now a ep first evs x n).1.cm) (e:=evs.getD n Pv.z) i1;exact⟨hm.1,i2.trans hj.1,hj.2⟩
theorem qxr {lim:Int}{m:FM}:∀(ks:List Int) (s:Int × Bool),lim≤s.1→lim≤(qdd lim m ks s).1
 | [],s,h=>h
 | k::r,s,h=>by
  refine qxr r _ ?_;unfold qlr
  split
  ·rename_i hc; dsimp only; omega
  ·exact h
theorem cmG {s:Sta}(ok:q2z s)(h:∀p∈s.cm,qh5 p):∀p∈s.cm,qld p:=fun p hp=>(h p hp).g (ok.sh.wc p hp) (ok.sh.rt p hp)
theorem Rch.cl {s:Sta}(R:Rch s):∀p∈s.cm,qh5 p:=fun p hp=>(R.cm p hp).l
theorem z4y {c:Cfg}(ok:qde c):Rch (newS c) where
 ok:=q9b ok
 sunk:=by show (0:Int)≤_; decide
 mnow:=⟨z5z _,z5z _⟩
 val:=by have:=ok.lag; show (0:Int) - c.lag≤-c.lag∧-c.lag≤0; omega
 keys:=fun a=>by
  have:rowE (newS c).rows a=En.z:=by
   unfold rowE newS;dsimp only
   split
   ·rfl
   ·rw [List.getElem?_replicate]; split <;> rfl
  rw [this]; rfl
 fl:=fun p hp=>absurd hp (by simp [newS,MS.new])
 rows:=fun a h=>by
  exfalso;have:rowE (newS c).rows a=En.z:=by
   unfold rowE newS;dsimp only
   split
   ·rfl
   ·rw [List.getElem?_replicate]; split <;> rfl
  rw [this] at h;simp [En.z] at h
 ag:=(open_new ok).ag
 cm:=fun p hp=>absurd hp (by simp [newS])
 kept:=fun p hp=>absurd hp (by simp [newS])
set_option maxHeartbeats 2000000 in
theorem qdb {s:Sta}{r:Rp}(R:Rch s)(hv:∀e∈r.evs,wf64 e.value):Rch (stepS s r):=by
 have hok:q2z (stepS s r):=apply_ok R.ok hv;have ok:=R.ok;have hmn:=R.mnow;have hval:=R.val;unfold stepS at *;revert hok;have nowup:∀{n:Int},s.now≤n→(0≤s.ms.now∧s.ms.now≤n)∧∀p∈s.ms.m,p.2.t≤n:=fun h=>⟨by omega,fun p hp=>by have:=R.fl p hp; omega⟩
 refine qvi (P:=fun q=>q2z q.1→Rch q.1) (fun _ _=>R) (fun _ _ _=>R) (fun _ _ _ hok=>⟨hok,R.sunk,R.mnow,R.val,R.keys,R.fl,R.rows,R.ag,R.cm,R.kept⟩) (fun hR hf hk hok=>?_) (fun hR hf hk hok=>?_) (fun hR hf hk hok=>?_) (fun hR hf hk hok=>?_) (fun hR hf hk hok=>?_) fun hR hf hk hok=>?_
 ·have hL:=q3h hR;have hnow:=q9u (by omega) (by omega) hf;rw [if_neg (by omega)] at hnow;obtain⟨u1,u2⟩:=nowup hnow;have hg:=ql1 (most:=s.cfg.agents) ok.rows r.ag r.bt r.nw;revert hok;unfold qc5
  split
  ·exact fun _=>R
  rename_i hn;have hn:=Decidable.not_not.1 hn;have hb:¬bad r.ag r.bt r.nw:=by
   intro hb;unfold q1w at hn;rw [if_pos hb] at hn; simp at hn
  split
  ·rename_i hf;intro hok
   rcases hg with ⟨-,g2,g3,g4,g5⟩|⟨g1,_⟩
   ·have hltr:r.ag.toNat < s.rows.length:=by rw [ok.rows.len]; have:=hL.ag; omega
    have hfull:¬((rowE s.rows r.ag).epoch=0∧full s.cfg.agents s.rows)∧(q1w s.cfg.agents s.rows r.ag r.bt r.nw).2.1.time=r.nw∧(q1w s.cfg.agents s.rows r.ag r.bt r.nw).2.1.boot=r.bt:=by
     unfold q1w at hf hn ⊢;rw [if_neg hb] at hf hn ⊢;dsimp only at hf hn ⊢
     split at hf
     ·cases hf
     rename_i q1;rw [if_neg q1] at hn ⊢
     split at hf
     ·cases hf
     rename_i q2;rw [if_neg q2] at hn ⊢
     split at hf
     ·cases hf
     rename_i q3;rw [if_neg q3] at hn ⊢
     split at hf
     ·cases hf
     rename_i q4;rw [if_neg q4];exact⟨q4,rfl,rfl⟩
    have hop:=(open_ag (s:=s) ok R.ag hL.ag hfull.1 g2);generalize (q1w s.cfg.agents s.rows r.ag r.bt r.nw)=G at *;have hrow:∀a,rowE G.1 a=if a=r.ag then G.2.1 else rowE s.rows a:=by
     intro a;rw [g2]
     by_cases e:a=r.ag
     ·rw [if_pos e,e,rowE_set hL.ag.1 hltr]
     ·rw [if_neg e];unfold rowE
      by_cases h0:a < 0
      ·rw [if_pos h0,if_pos h0]
      ·rw [if_neg h0,if_neg h0,List.getElem?_set_ne (by have:=hL.ag; omega)]
    have hold:(oldM s r.ag).now=s.ms.now∧(oldM s r.ag).value=s.ms.value∧(∀p∈(oldM s r.ag).m,p.2.t≤r.nw)∧q08 r.ag (oldM s r.ag).m=none∧∀a,a≠r.ag→q08 a (oldM s r.ag).m=q08 a s.ms.m:=by
     unfold oldM
     cases hs:q8t s r.ag with
     | none=>
      dsimp only;refine⟨rfl,rfl,u2,?_,fun _ _=>rfl⟩
      have hk:=R.keys r.ag;have h0:¬0 < (rowE s.rows r.ag).epoch:=by
       intro h;have hlt:r.ag.toNat < 64:=by have:=hL.ag; omega
       have e1:((r.ag.toNat:Nat):Int)=r.ag:=by have:=hL.ag; omega
       have e2:rowE s.rows r.ag=s.rows[r.ag.toNat]:=by rw [← qpr hltr,e1]
       obtain⟨st,_,h2⟩:=R.str hlt (by rw [← e2]; exact h);rw [e1,hs] at h2
       cases h2
      rw [z6m h0] at hk
      cases h:q08 r.ag s.ms.m with
      | none=>rfl
      | some x=>rw [h] at hk; simp at hk
     | some st=>
      dsimp only;unfold MS.leave
      split
      ·rename_i h;exact⟨rfl,rfl,u2,h,fun _ _=>rfl⟩
      ·refine⟨rfl,rfl,fun p hp=>u2 p (qci.1 hp).1,?_,fun a ha=>?_⟩
       ·dsimp only; rw [qmb,if_pos rfl]
       ·dsimp only; rw [qmb,if_neg ha]
    obtain⟨o1,o2,o3,o4,o5⟩:=hold;have hj:(oldM s r.ag).join r.ag r.nw=({ oldM s r.ag with m:=mset r.ag ⟨r.nw,false,false,false⟩ (oldM s r.ag).m },0):=by
     unfold MS.join;have h1:=hL.ag;have h2:=hL.nw;rw [if_neg (by unfold isAg isT; unfold isT at h2; omega),o4]
    rw [hj] at hok ⊢;refine⟨hok,R.sunk,by dsimp only; omega,by dsimp only; omega,fun a=>?_,fun p hp=>?_,fun a h=>?_,hop,R.cm,R.kept⟩
    ·dsimp only;rw [hrow,qck]
     by_cases e:a=r.ag
     ·rw [if_pos e,if_pos e,z5m g3]; rfl
     ·rw [if_neg e,if_neg e,o5 a e]; exact R.keys a
    ·rcases q45 hp with rfl|hp
     ·exact z5z _
     ·exact o3 p hp
    ·dsimp only at h ⊢;rw [hrow] at h ⊢
     by_cases e:a=r.ag
     ·rw [if_pos e,hfull.2.1,hfull.2.2];have h1:=hL.bt;have h2:=hL.nw;exact⟨⟨h1.1 hk,h1.2.2⟩,h2.1,h2.2⟩
     ·rw [if_neg e] at h ⊢;exact R.rows a h
   ·rw [g1] at hf; cases hf
  ·rename_i hf;intro hok
   rcases hg with ⟨g1,_⟩|⟨-,g2,_⟩
   ·exact absurd g1 hf
   ·rw [g2] at hok ⊢;exact⟨hok,R.sunk,u1,R.val,R.keys,u2,R.rows,R.ag,R.cm,R.kept⟩
 ·have hL:=q3h hR;have hnow:=q9u (by omega) (by omega) hf;rw [if_pos hk] at hnow;obtain⟨u1,u2⟩:=nowup hnow;obtain⟨st,hst⟩:=q4f ok hL hf (.inl hk);revert hok;unfold ql0;rw [hst];intro hok;have hh:∀b,(s.ms.hold r.ag b).1.now=s.ms.now∧(s.ms.hold r.ag b).1.value=s.ms.value∧(∀a,(q08 a (s.ms.hold r.ag b).1.m).isSome=(q08 a s.ms.m).isSome)∧∀p∈(s.ms.hold r.ag b).1.m,p.2.t≤r.sm.came:=by
   intro b;unfold MS.hold
   split
   ·exact⟨rfl,rfl,fun _=>rfl,u2⟩
   ·rename_i x hx;refine⟨rfl,rfl,fun a=>?_,fun p hp=>?_⟩
    ·dsimp only;rw [qck]
     split
     ·rename_i e; rw [e,hx]; rfl
     ·rfl
    ·rcases q45 hp with rfl|hp
     ·have:=u2 (r.ag,x) (q0b hx);exact this
     ·exact u2 p hp
  obtain⟨h1,h2,h3,h4⟩:=hh (qgq st.ck r.sm).1.held;refine⟨hok,R.sunk,?_,?_,fun a=>?_,h4,R.rows,R.ag,R.cm,R.kept⟩
  ·dsimp only; rw [h1]; exact u1
  ·dsimp only; rw [h1,h2]; exact R.val
  ·dsimp only; rw [h3]; exact R.keys a
 ·have hL:=q3h hR;have hnow:=q9u (by omega) (by omega) hf;rw [if_neg (by omega)] at hnow;obtain⟨u1,u2⟩:=nowup hnow;obtain⟨st,hst⟩:=q4f ok hL hf (.inr (.inl hk));have hsok:=ok.sts st (z5w hst);have hb:=hL.evs hk;unfold q5w at hb;simp only [z56,z52,z69] at hb;obtain⟨⟨hb1,hb2⟩,⟨⟨hb3,hb4⟩,hb5⟩,hb6⟩:=hb;have hm:=qbz (s:=st.hs) (first:=r.nx) (items:=r.evs);have good:∀e∈(st.hs.offer r.nx r.evs).2.1,q9a e=true∧wf64 e.value:=by
   intro e he
   rcases hm.1 e he with h|⟨q,h,rfl⟩
   ·exact⟨hb6 e h,hv e h⟩
   ·exact (hsok.rows q h).2
  have hj:=qxq (c:=s.cfg) (now:=r.nw) (a:=r.ag) (ep:=r.ep) (first:=st.hs.next) (evs:=(st.hs.offer r.nx r.evs).2.1) (x:=⟨{ st with hs:=(st.hs.offer r.nx r.evs).1 },s.ms,s.cm⟩) ok.cfg.gd hL.nw ok.ms good u2 R.cl _ (z5c _);revert hok;unfold qaz;rw [hst];dsimp only;unfold qkw;generalize q2s s.cfg r.nw r.ag r.ep st.hs.next (st.hs.offer r.nx r.evs).2.1 ⟨{ st with hs:=(st.hs.offer r.nx r.evs).1 },s.ms,s.cm⟩ (st.hs.offer r.nx r.evs).2.1.length=G at *;intro hok;obtain⟨j1,j2,j3⟩:=hj;refine⟨hok,R.sunk,?_,?_,fun a=>?_,j2.fl,R.rows,R.ag,cmG hok j3,R.kept⟩
  ·dsimp only at j2 ⊢; rw [j2.now]; exact u1
  ·dsimp only at j2 ⊢; rw [j2.now,j2.value]; exact R.val
  ·dsimp only at j2 ⊢; rw [j2.keys]; exact R.keys a
 ·have hL:=q3h hR;have hnow:=q9u (by omega) (by omega) hf;rw [if_neg (by omega)] at hnow;obtain⟨u1,u2⟩:=nowup hnow;obtain⟨st,hst⟩:=q4f ok hL hf (.inr (.inr hk));revert hok;unfold z07;rw [hst];dsimp only
  split
  ·exact fun hok=>⟨hok,R.sunk,u1,R.val,R.keys,u2,R.rows,R.ag,R.cm,R.kept⟩
  split
  ·exact fun hok=>⟨hok,R.sunk,u1,R.val,R.keys,u2,R.rows,R.ag,R.cm,R.kept⟩
  ·rename_i hT;intro hok;obtain⟨t1,t2,t3⟩:=qxk (Decidable.not_not.1 hT);have j2:=z4x (a:=r.ag) (t:=(q21 st.ck (flOf s.ms r.ag) r.nw r.st).1.lo) u2 (by omega);refine⟨hok,R.sunk,?_,?_,fun a=>?_,j2.fl,R.rows,R.ag,R.cm,R.kept⟩
   ·dsimp only; rw [j2.now]; exact u1
   ·dsimp only; rw [j2.now,j2.value]; exact R.val
   ·dsimp only; rw [j2.keys]; exact R.keys a
 ·have hL:=q3h hR;have hnow:=q9u (by omega) (by omega) hf;rw [if_neg (by omega)] at hnow;obtain⟨u1,u2⟩:=nowup hnow;have hnw:=hL.nw;have hlag:=ok.ms.l1;have hll:=ok.lag;have ht:s.ms.tick r.nw=({ s.ms with now:=r.nw,value:=maxI s.ms.value (qdd (r.nw - s.ms.lag) s.ms.m (q7n (q03 s.ms.m)) (r.nw - s.ms.lag,false)).1,m:=s.ms.m.map fun p=>(p.1,updF (r.nw - s.ms.lag) p.2) },0):=by
   unfold MS.tick;rw [if_neg (by intro h; rcases h with h|h; exact h hnw; omega)]
  have f1:=z4r (lim:=r.nw - s.ms.lag) u2 hnw.1 (q7n (q03 s.ms.m)) (r.nw - s.ms.lag,false) (by dsimp only; omega);have f2:=qxr (lim:=r.nw - s.ms.lag) (m:=s.ms.m) (q7n (q03 s.ms.m)) (r.nw - s.ms.lag,false) (z5z _);revert hok;unfold qky z3o;rw [ht];intro hok;have hcl:∀p∈qdl s.cm (q2i s.cfg.gd (maxI s.ms.value (qdd (r.nw - s.ms.lag) s.ms.m (q7n (q03 s.ms.m)) (r.nw - s.ms.lag,false)).1)),qld p:=fun p hp=>R.cm p (z0n.1 hp).1
  refine⟨hok,R.sunk,⟨hnw.1,z5z _⟩,?_,fun a=>?_,fun p hp=>?_,R.rows,R.ag,hcl,fun o ho=>?_⟩
  ·dsimp only;unfold maxI
   split <;> omega
  ·dsimp only;have:=qft (f:=fun (_:Int)=>updF (r.nw - s.ms.lag)) (k:=a) (m:=s.ms.m)
   rw [this,← R.keys a]
   cases q08 a s.ms.m <;> rfl
  ·obtain⟨q,hq,rfl⟩:=z5b.1 hp;exact u2 q hq
  ·rcases z6g.1 ho with ho|ho
   ·exact R.kept o ho
   ·exact R.cm o (qsv (qna ho))
 ·revert hok;unfold z3s
  split
  ·intro hok;have hL:=q3h hR;exact⟨hok,by have:=hL.nx; exact this.2,R.mnow,R.val,R.keys,R.fl,R.rows,R.ag,R.cm,fun o ho=>R.kept o (z7c ho)⟩
  ·exact fun _=>R
theorem Rch.ser {s:Sta}(R:Rch s):qv7 s:=⟨fun p hp=>(R.cm p hp).size,fun o ho=>(R.kept o ho).size⟩
open Go.Proofs.YtfmkddccnjidmaaGreatDoor
theorem qnn {f:Nat→Int}{is:List Nat}(h:∀i∈is,wf64 (f i))(r:List Int):∀j,j≤is.length→qay j ⟨0,(is.flatMap fun i=>usB [f i])++r⟩=.ok ((is.take j).map f,⟨0,((is.drop j).flatMap fun i=>usB [f i])++r⟩)
 | 0,_=>rfl
 | j+1,hj=>by
  have hlt:j < is.length:=by omega
  unfold qay;rw [qnn h r j (by omega)];dsimp only;rw [z6h hlt,z6a,z5d,q2t (h _ (z5e hlt))];dsimp only;rw [z6t,List.getElem?_eq_getElem hlt,z5v]; rfl
theorem qlf {l:List Pv}(h:∀e∈l,q9a e=true∧wf64 e.value)(r:List Int):∀j,j≤l.length→q6v j ⟨0,l.flatMap evB++r⟩=.ok (l.take j,⟨0,(l.drop j).flatMap evB++r⟩)
 | 0,_=>rfl
 | j+1,hj=>by
  have hlt:j < l.length:=by omega
  have hm:=h _ (z5e hlt);unfold q6v;rw [qlf h r j (by omega)];dsimp only;rw [z6h hlt,z6a,z5d,qnk hm.1 hm.2];dsimp only;rw [z6t,List.getElem?_eq_getElem hlt]; rfl
theorem atV_map {k:Int}{f:Nat→Int}{i:Nat}:atV k ((ordK k).map f) i=if i∈ordK k then f i else 0:=by
 unfold atV
 split
 ·rename_i h;have hl:=List.idxOf_lt_length_iff.2 h;rw [z82,List.getElem?_map,List.getElem?_eq_getElem hl,List.getElem_idxOf hl]; rfl
 ·rfl
theorem nums_wf {r:Rp}(hL:RLim r)(i:Nat):wf64 (r.nums i):=by
 have h1:=hL.ag;have h2:=hL.ep;have h3:=hL.bt;have h4:=hL.nx;have h5:=hL.st;have h6:=hL.nw;have h7:=hL.sm.wf;unfold Smp.wf at h7;unfold isT at *;unfold Rp.nums
 split <;> first|exact h7.1|exact h7.2.1|exact h7.2.2.1|exact h7.2.2.2|(unfold wf64; omega)
theorem rec_back {r:Rp}(hR:r.right=true)(hv:∀e∈r.evs,wf64 e.value):recR r.bytes=.ok r:=by
 have hL:=q3h hR;have hz:=qvk hR;have hk:=hL.kind;have hev:(r.kind=4→r.evs.length≤64∧∀e∈r.evs,q9a e=true∧wf64 e.value)∧(¬r.kind=4→r.evs=[]):=by
  refine⟨fun h4=>?_,fun h4=>?_⟩
  ·have hb:=hL.evs h4;unfold q5w at hb;simp only [z56,z52,z69] at hb;exact⟨hb.2.1.1.2,fun e he=>⟨hb.2.2 e he,hv e he⟩⟩
  ·unfold Rp.right at hR;rw [if_neg h4] at hR;simp only [z56,z52] at hR;exact z7t.1 hR.1.2
 have e:r.bytes=usB [r.kind]++(((ordK r.kind).flatMap fun i=>usB [r.nums i])++((if r.kind=4 then usB [((r.evs.length:Nat):Int)] else [])++(r.evs.flatMap evB++[]))):=by
  unfold Rp.bytes;rw [if_pos hR];simp only [z5d,z61]
 have hfill:qgz r.kind ((ordK r.kind).map r.nums) r.evs=r:=by
  unfold Rp.zeros at hz;simp only [z56,z52] at hz;have key:∀i x,r.nums i=x→zrK r.kind i x=0→atV r.kind ((ordK r.kind).map r.nums) i=x:=by
   intro i x h1 h2;rw [atV_map];unfold zrK at h2
   split
   ·exact h1
   ·rename_i h;rw [if_neg h] at h2;exact h2.symm
  unfold qgz;obtain⟨⟨⟨⟨⟨⟨z1,z2⟩,z3⟩,z4⟩,z5⟩,z6⟩,⟨⟨z7,z8⟩,z9⟩,z10⟩:=hz;rw [key 1 r.ag rfl z1,key 2 r.ep rfl z2,key 3 r.bt rfl z3,key 4 r.nx rfl z4,key 5 r.st rfl z5,key 6 r.nw rfl z6,key 7 r.sm.asked rfl z7,key 8 r.sm.got rfl z8,key 9 r.sm.sent rfl z9,key 10 r.sm.came rfl z10]
 unfold recR;rw [e,qix (by omega) (by omega)];dsimp only;rw [if_neg (by omega),qnn (fun i _=>nums_wf hL i) _ _ (z5c _),z6p,z6z]
 dsimp only;have fin:evsR r.kind ⟨0,([]:List Nat).flatMap (fun i=>usB [r.nums i])++((if r.kind=4 then usB [((r.evs.length:Nat):Int)] else [])++(r.evs.flatMap evB++[]))⟩=.ok (r.evs,⟨0,[]⟩):=by
  unfold evsR
  split
  ·rename_i h4;obtain⟨h5,h6⟩:=hev.1 h4;have ec:q23 64 ⟨0,([]:List Nat).flatMap (fun i=>usB [r.nums i])++(usB [((r.evs.length:Nat):Int)]++(r.evs.flatMap evB++[]))⟩=.ok (((r.evs.length:Nat):Int),⟨0,r.evs.flatMap evB++[]⟩):=q9t (by omega) (by omega) _
   rw [ec];dsimp only;rw [z5a,qlf h6 _ _ (z5c _),z6p,z6z];rfl
  ·rename_i h4;rw [hev.2 h4];rfl
 rw [fin];dsimp only;rw [show (q2f ⟨0,[]⟩).e=0 from rfl,if_neg (by simp),hfill,hR,if_pos rfl]
namespace Al
def c0:Cfg:=⟨10,0,1000,100,100,2,4,40,8⟩
def r1:Rp:=⟨2,3,0,1,0,0,0,Smp.z,[]⟩
def r2:Rp:=⟨3,3,1,0,0,0,0,⟨0,0,0,2⟩,[]⟩
def e0:Pv:=⟨5,7,⟨#[109]⟩,[]⟩
def r3:Rp:=⟨4,3,1,0,0,0,9,Smp.z,[e0]⟩
def r4:Rp:=⟨6,0,0,0,0,0,200,Smp.z,[]⟩
def r5:Rp:=⟨6,0,0,0,0,0,199,Smp.z,[]⟩
def r6:Rp:=⟨7,0,0,0,1,0,0,Smp.z,[]⟩
def r7:Rp:=⟨1,0,0,0,0,0,0,Smp.z,[]⟩
def A1:=q5q (newS c0) r1
def A2:=q5q A1.1 r2
def A3:=q5q A2.1 r3
def A4:=q5q A3.1 r4
def A5:=q5q A4.1 r5
def A6:=q5q A5.1 r6
def A7:=q5q A6.1 r7
theorem ok0:qde c0:=qh2 (by kernel_rfl)
theorem nov {r:Rp}(h:r.evs=[]):∀e∈r.evs,wf64 e.value:=fun e he=>by rw [h] at he; cases he
theorem R1:Rch A1.1:=qdb (z4y ok0) (nov rfl)
theorem R2:Rch A2.1:=qdb R1 (nov rfl)
theorem R3:Rch A3.1:=qdb R2 fun e he=>by
 have:e=e0:=by simpa [r3] using he
 rw [this]; show wf64 7; decide
theorem R4:Rch A4.1:=qdb R3 (nov rfl)
theorem R5:Rch A5.1:=qdb R4 (nov rfl)
theorem R6:Rch A6.1:=qdb R5 (nov rfl)
end Al
end Go.Nm
namespace Go.Proofs.YtfmkddccnjidmaaGreatDoor
open Go.Nm
section
variable {F L:List Assn} {H H0:Heap} {K KP:Value→Heap→Prop} {Q Q':Assn} {sb:Nat} {s:Sta}
theorem qh6 (h:SatL H F)(k:∀H',SatL H' F→K (.agg ⟨qrq Al.c0⟩) H'):CF 30 #[] H K:=by
 refine Small.call ?_;unfold Small.code;refine h.al fun b _ h=>?_
 refine h.st 0 rfl rfl ?_;intro H2 h;exact⟨_,_,_,_,_,_,_,_,_,h.rds 0 rfl rfl,k _ h.tl⟩
theorem qav {sb:Nat}{s:Sta}{r:Rp}{a:Option Addr}{c n:Nat}{e:Int}{A:Sta × List Eff × Int}{evs:List Ev}(hA:q5q s r=A)(hn:A.2.1.length=n)(he:A.2.2=e)(R:Rch s)(hkl:s.kept.length=0∨s.kept.length=1)(hr:z3n Q F r a evs)(h:SatL H (Q::stA Q sb s::F))
  (k:∀Q' a' c' H',Sub Q Q'→SatL H' (Q'::slA 66 87 a' n c' (flat q54 A.2.1)::stA Q' sb A.1::F)→K (.tuple #[.slice a' n c',I64 e]) H') :
  CF 17 #[PA sb 0,.agg ⟨encR r a c⟩] H K:=by
 subst hA; subst hn; subst he;exact z08 R.ok (by have:=R.sunk; omega) (by omega) hr h k
theorem qno {r:Rp}(h:r.evs=[]):z3n Q F r none []:=⟨h,fun H _=>qa0 H _,fun e he=>absurd he (by simp),by simp,Al.nov h⟩
theorem eq51:q7d Tryz.prog .eql 51 (.agg #[I64 0,I64 0]) (.agg #[I64 0,I64 0]) true:=
 (qcl (P:=Tryz.prog) (t:=51) (xs:=[I64 0,I64 0]) (ys:=[I64 0,I64 0]) (r:=true) (by kernel_rfl)).1
theorem stB_len (ok:q2z s)(ser:qv7 s)(hk:s.kept.length≤50000):(stB s).length≤1000000000:=by
 have h1:=qx9 (s:=s);have h2:=qas (f:=agOf s) (l:=tab 0 s.rows) (B:=345000) fun p _=>qir ok p
 have h3:=qwy ok.rows;have h4:=qas (f:=ceB) (l:=q0h s.cm) (B:=10100) fun o ho=>by
  obtain⟨q,hq,e⟩:=ql4 ho;exact qpf (qiq ok.sh _ ho) (by rw [← e]; exact ser.cm q hq)
 have h5:=qas (f:=ceB) (l:=s.kept) (B:=10100) fun o ho=>qpf (ok.kept o ho) (ser.kept o ho)
 have h6:=q9k s.cm;have h7:=ok.sh.len;have h8:=ok.sh.m2;have q1:=q1j [(s.cm.length:Int)];have q2:=q1j [(s.kept.length:Int)];have m1:345000*(tab 0 s.rows).length≤345000*64:=z7e _ h3;have m2:10100*(q0h s.cm).length≤10100*1024:=z7e _ (by omega);have m3:10100*s.kept.length≤10100*50000:=z7e _ hk;unfold stB stB3 stB2;simp only [z51,z59,z5t] at *;omega
theorem rbytes3:q04 Al.r3.bytes:=by
 unfold Rp.bytes
 split
 ·refine q0a (q0a (q0a (q3a _) (q19 fun _ _=>q3a _)) ?_) (q19 fun _ _=>qrl _)
  split
  ·exact q3a _
  ·exact q3e
 ·exact q3e
set_option maxHeartbeats 8000000 in
theorem z0u (h:SatL H (Q::F))(k:∀Q' H',Sub Q Q'→SatL H' (Q'::F)→K (.bool true) H'):CF 9 #[] H K:=by
 refine qot.call ?_;unfold qot.code;refine qh6 h fun H1 h=>⟨_,_,_,_,_,_,_,_,_,rfl,?_⟩
 refine qnb (Q:=Q) (c:=Al.c0) h (fun hc=>absurd hc (by rw [show cfgR Al.c0=true by kernel_rfl]; simp)) fun _ sb H2 h=>⟨_,_,rfl,fun hf=>absurd hf (by simp),fun _=>?_⟩
 have h:=h.o [1,0] 2;refine qav (r:=Al.r1) (a:=none) (c:=0) (n:=1) (e:=0) (A:=Al.A1) rfl (by kernel_rfl) (by kernel_rfl) (z4y Al.ok0) (.inl (by kernel_rfl)) (qno rfl) h fun Q1 a1 c1 H3 hs1 h=>⟨_,_,_,_,rfl,?_⟩
 have h:=h.o [0,2,1] 3;refine qav (r:=Al.r2) (a:=none) (c:=0) (n:=0) (e:=0) (A:=Al.A2) rfl (by kernel_rfl) (by kernel_rfl) Al.R1 (.inl (by kernel_rfl)) (qno rfl) h fun Q2 a2 c2 H4 hs2 h=>⟨_,_,_,_,rfl,?_⟩
 refine h.al fun b _ h=>?_
 refine h.st 0 rfl rfl ?_;intro H5 h;refine⟨_,_,_,_,h.rds 0 rfl rfl,?_⟩;refine h.al fun b1 _ h=>?_
 refine h.al fun b2 _ h=>?_
 refine h.st 0 rfl rfl ?_;intro H6 h;refine⟨_,_,_,_,_,_,_,_,_,_,_,_,_,_,h.rds 0 rfl rfl,?_⟩;have h:=h.o [3,5,0,1,6] 7;have hev:∀G:List Assn,z3n Q2 (cellsA b2 [I64 4,I64 3,I64 1,I64 0,I64 0,I64 0,I64 9,I64 0,I64 0,I64 0,I64 0,.slice (some ⟨b1,0,none⟩) 1 1] 46::cellsA b1 [I64 5,I64 7,.string ⟨#[109]⟩,.slice none 0 0] 95::G) Al.r3 (some ⟨b1,0,none⟩) [⟨5,7,⟨#[109]⟩,[],none,0⟩]:=fun G=>
  ⟨rfl,fun H h=>h.ce_rd 1 rfl,fun e he=>by
   rw [z60] at he; subst he;exact KIn.nil _ _,by simp,fun e he=>by
   have:e=Al.e0:=by simpa [Al.r3] using he
   rw [this]; show wf64 7; decide⟩
 refine qav (r:=Al.r3) (a:=some ⟨b1,0,none⟩) (c:=1) (n:=2) (e:=0) (A:=Al.A3) rfl (by kernel_rfl) (by kernel_rfl) Al.R2 (.inl (by kernel_rfl)) (hev _) h fun Q3 a3 c3 H7 hs3 h=>⟨_,_,_,_,rfl,?_⟩
 have h:=h.o [2,0,1,3,4,5] 6;have eAg:qx5 Al.A3.1 3=(⟨⟨1,1,0⟩,⟨4,false,false,false⟩,5,1,0,1⟩,true):=by kernel_rfl
 refine qv6 (a:=3) Al.R3.ok h fun H8 h=>?_
 rw [eAg];refine⟨_,_,_,_,_,_,_,_,_,_,_,_,rfl,?_⟩;refine h.al fun b3 _ h=>?_
 refine h.st 0 rfl rfl ?_;intro H9 h;have h:=h.o [1,0,2,3,4,5,6] 7;have eAt:atS Al.A3.1 3 5=(⟨4,8⟩,0):=by kernel_rfl
 refine z3x (a:=3) (stamp:=5) Al.R3.ok h fun H10 h=>?_
 rw [eAt];refine⟨_,_,_,rfl,?_⟩;refine h.al fun b4 _ h=>?_
 refine h.st 0 rfl rfl ?_;intro H11 h;have h:=h.o [3,1,0,2,4,5,6,7] 8;refine qav (r:=Al.r4) (a:=none) (c:=0) (n:=1) (e:=0) (A:=Al.A4) rfl (by kernel_rfl) (by kernel_rfl) Al.R3 (.inl (by kernel_rfl)) (qno rfl) h fun Q4 a4 c4 H12 hs4 h=>⟨_,_,_,_,rfl,?_⟩
 refine qh6 h fun H13 h=>⟨_,_,_,_,_,_,_,_,_,rfl,?_⟩
 have h:=h.o [0,2,1,3,4,5,6,7,8] 9;refine qeb Al.R4.ok Al.R4.ser (by rw [show Al.A4.1.kept.length=1 by kernel_rfl]; decide) h fun ab cb H14 h=>⟨_,_,_,rfl,?_⟩
 have hsA:ab=none∨∃k o,ab=some ⟨k,o,none⟩:=by
  rcases (q3r (F:=star _) h).2 with ⟨h2,_⟩|⟨b,pre,post,e',fr,h2,_⟩
  ·exact .inl h2
  ·exact .inr ⟨_,_,h2⟩
 have h:=h.o [1,0,2,3,4,5,6,7,8,9] 10;have hk1:Al.A4.1.kept.length=1:=by kernel_rfl
 have hcf:Al.A4.1.cfg=Al.c0:=by kernel_rfl
 have hp1:q5y Al.c0 (stB Al.A4.1)=.ok (q9v Al.A4.1):=by
  have:=z0q Al.R4 (by rw [hk1]; decide);rw [hcf] at this;exact this
 have hpS:qg1 Al.c0 (stB Al.A4.1)=.ok (q9v Al.A4.1):=by
  unfold qg1;rw [if_neg (by rw [show cfgR Al.c0=true by kernel_rfl]; simp),hp1];dsimp only;rw [if_pos (z0t Al.R4)]
 have hll:(stB Al.A4.1).length≤1000000000:=stB_len Al.R4.ok Al.R4.ser (by rw [hk1]; decide);refine qnf (c:=Al.c0) h (fun H h=>h.sl_rd 0 rfl) hsA (qsg _) hll (fun _ s hs=>?_) (fun hc=>absurd hc (by rw [show cfgR Al.c0=true by kernel_rfl]; simp)) (fun _ e he=>by rw [hpS] at he; cases he) fun _ s hs=>?_
 ·rw [hp1] at hs
  cases hs
  exact⟨⟨fun p hp=>(Al.R4.ser).cm p ((qg8 Al.R4).2.mem_iff.2 hp),Al.R4.ser.kept⟩,by show Al.A4.1.kept.length≤_; rw [hk1]; decide⟩
 rw [hpS] at hs
 cases hs
 intro Q5 tb H15 hs5 h;refine⟨_,_,rfl,?_⟩;refine⟨_,_,_,_,_,_,_,_,_,_,_,_,_,_,h.rds 8 rfl rfl,?_⟩;have h:=h.o [8,9,0,1,2,3,4,5,6,7,10] 11;refine qus (r:=Al.r3) (a:=some ⟨b1,0,none⟩) (c:=1) (evs:=[⟨5,7,⟨#[109]⟩,[],none,0⟩]) rfl h ⟨fun H h=>h.ce_rd 1 rfl,fun e he H h=>by
   rw [z60] at he; subst he;exact qa0 _ _⟩ (by simp) fun ar cr H16 h=>⟨_,_,_,rfl,?_⟩
 have h:=h.o [3,0,1,2,4,5,6,7,8,9,10,11] 12;have hrb:recR Al.r3.bytes=.ok Al.r3:=rec_back (by kernel_rfl) fun e he=>by
  have:e=Al.e0:=by simpa [Al.r3] using he
  rw [this]; show wf64 7; decide
 refine z3b (bs:=Al.r3.bytes) h (fun H h=>h.sl_rd 1 rfl) rbytes3 (by rw [show Al.r3.bytes.length=11 by kernel_rfl]; decide) ?_
 rw [hrb];intro Q6 evs ad cd H17 hs6 hevs hlab h;have hel:evs.length=1:=by
  have:=congrArg List.length hevs;rw [z5q] at this;exact this.symm
 refine⟨_,_,_,_,_,_,_,_,_,_,_,_,_,_,_,rfl,?_⟩;refine h.al fun b5 _ h=>?_
 refine h.st 0 rfl rfl ?_;intro H18 h;have h:=h.o [8,1,6,0,2,9,10,11,12,13] 14;have h:=z3i (hs5.trans hs6) h;have h:=h.o [2,0,1,3,4,5,6,7,8,9] 10;have h:=z3i hs6 h;have h:=h.o [2,1,0,3,4,5,6,7,8,9] 10;refine qav (r:=Al.r5) (a:=none) (c:=0) (n:=0) (e:=11) (A:=Al.A5) rfl (by kernel_rfl) (by kernel_rfl) Al.R4 (.inr (by kernel_rfl)) (qno rfl) h fun Q7 a7 c7 H19 hs7 h=>⟨_,_,_,_,rfl,?_⟩
 have h:=h.o [0,2,3,4,5,6,7,8,9,10] 11;refine qav (r:=Al.r6) (a:=none) (c:=0) (n:=0) (e:=0) (A:=Al.A6) rfl (by kernel_rfl) (by kernel_rfl) Al.R5 (.inr (by kernel_rfl)) (qno rfl) h fun Q8 a8 c8 H20 hs8 h=>⟨_,_,_,_,rfl,?_⟩
 have h:=h.o [0,2,3,4,5,6,7,8,9,10] 11;refine qav (r:=Al.r7) (a:=none) (c:=0) (n:=0) (e:=0) (A:=Al.A7) rfl (by kernel_rfl) (by kernel_rfl) Al.R6 (.inl (by kernel_rfl)) (qno rfl) h fun Q9 a9 c9 H21 hs9 h=>⟨_,_,_,_,rfl,fun hf=>absurd hf (by simp),fun _=>?_⟩
 have h:=h.o [0,2,3,4,5,6,7,8,9,10] 11;refine h.al fun b6 _ h=>?_
 refine h.st 0 rfl rfl ?_;intro H22 h;have h:=h.o [3,0,1,2,4,5,6,7,8,9,10] 11;refine qvc h fun hb c0 H23 hp=>⟨_,_,rfl,rfl,fun R hR1 hR2 hy=>?_⟩
 obtain⟨p,rfl,h⟩:=hp;have h:=h.rng R;have hcm:(q9v Al.A4.1).cm.length=0:=by kernel_rfl
 have hol:(q0h (q9v Al.A4.1).cm).length=0:=by rw [q9k,hcm]
 refine qe5 (sb:=p.hb) (mb:=p.hm) (m:=(q9v Al.A4.1).cm) (c0:=c0) (by omega) (fun _=>star [shC p.hb p.hm (q9v Al.A4.1).cfg.cells,mapC p.hm (q9v Al.A4.1).cm,pt (H23.size+1) (.loop R)]) (fun _=>pur False) (pt (H23.size+1) (.loop R))
  (h.o [2,8,9,0,1,3,4,5,6,7,10,11,12,13,14,15,16,17,18,19,20,21] 22) (fun G H' h=>SatL.shut [_,_,_] h) (fun j hj=>absurd hj (by omega)) (fun H24 h=>?_) (fun j H' hj=>absurd hj (by omega))
 have h:=SatL.open (A:=[_,_,_]) h;refine⟨.ready,none,by decide,by rw [q7p hR1 hR2]; exact h.getO 2 rfl,h.stl 2 rfl fun H25 h=>⟨rfl,?_⟩⟩
 intro Jn hJ;have r1:=h.sl_rd 20 rfl;have r3:=h.sl_rd 19 rfl;have r4:=h.sl_rd 16 rfl;have l1:0 < Al.A1.2.1.length:=by rw [show Al.A1.2.1.length=1 by kernel_rfl]; decide
 have l3:0 < Al.A3.2.1.length:=by rw [show Al.A3.2.1.length=2 by kernel_rfl]; decide
 have l3':1 < Al.A3.2.1.length:=by rw [show Al.A3.2.1.length=2 by kernel_rfl]; decide
 have l4:0 < Al.A4.2.1.length:=by rw [show Al.A4.2.1.length=1 by kernel_rfl]; decide
 refine⟨fun _=>by decide,_,_,fun _=>r1.some q15 (by decide) l1,_,fun _=>r1.el q15 l1 0 (v:=I64 1) (by kernel_rfl),
  fun _=>by decide,_,_,fun _=>r1.some q15 (by decide) l1,_,fun _=>r1.el q15 l1 2 (v:=I64 1) (by kernel_rfl),
  fun _=>by decide,_,_,fun _=>r3.some q15 (by decide) l3,_,fun _=>r3.el q15 l3 0 (v:=I64 3) (by kernel_rfl),
  fun _=>by decide,_,_,fun _=>r3.some q15 (by decide) l3,_,_,fun _=>⟨r3.el q15 l3 9 (v:=I64 0) (by kernel_rfl),r3.el q15 l3 10 (v:=I64 0) (by kernel_rfl)⟩,true,fun _=>eq51,
  fun _=>by decide,_,_,fun _=>r3.some q15 (by decide) l3,_,fun _=>r3.el q15 l3' 0 (v:=I64 2) (by kernel_rfl),
  fun _=>by decide,_,_,fun _=>r3.some q15 (by decide) l3,_,fun _=>r3.el q15 l3' 4 (v:=I64 1) (by kernel_rfl),
  fun _=>by decide,_,_,fun _=>r4.some q15 (by decide) l4,_,fun _=>r4.el q15 l4 0 (v:=I64 4) (by kernel_rfl),
  fun _=>by decide,_,_,fun _=>r4.some q15 (by decide) l4,_,fun _=>r4.el q15 l4 19 (v:=I64 7) (by kernel_rfl),
  fun _=>by decide,_,_,fun _=>r4.some q15 (by decide) l4,_,fun _=>r4.el q15 l4 20 (v:=I64 1) (by kernel_rfl),
  _,fun _=>h.rd 18 rfl _,_,fun _=>h.rd 18 rfl _,_,fun _=>h.rd 17 rfl _,_,fun _=>h.rd 17 rfl _,_,_,_,fun _=>h.rd 14 rfl _,
  _,_,_,_,_,_,_,_,_,_,_,_,_,_,fun _=>h.rds 14 rfl rfl,fun _=>?_,fun hn=>?_⟩
 rotate_left
 ·exact absurd (by kernel_rfl) hn
 refine qap (r:=Al.r3) (evs:=evs) hevs h ⟨fun H h=>h.sl_rd 15 rfl,fun e he H h=>(hlab e he |>.sub (hs7.trans (hs8.trans hs9))).at h 12 rfl⟩ (by rw [hel]; decide) fun H26 h=>⟨_,rfl,_,fun _=>h.rd 11 rfl _,fun _=>?_,fun hn=>absurd (by kernel_rfl) hn⟩
 have h:=h.o [4,5,6,7,8,0,1,9,10,2,3,11,12,13] 21;have h:SatL H26 (stA Q6 tb (q9v Al.A4.1)::_):=q0f.2 ⟨p,h⟩;refine qnc (by rw [show (q9v Al.A4.1).kept.length=1 by kernel_rfl]; decide) h fun ak ck H27 h=>⟨_,_,_,rfl,fun _=>?_,fun hn=>absurd (by kernel_rfl) hn⟩
 have h:=h.o [6,1,2,3,4,5] 7;refine qnc (by rw [show Al.A7.1.kept.length=0 by kernel_rfl]; decide) h fun ak2 ck2 H28 h=>⟨_,_,_,rfl,?_⟩
 have h:=h.o [1,2,3,4,5,6] 7;have ht:=h.o [1] 2;refine⟨_,fun _=>z0a h,_,fun _=>ql2 h,_,fun _=>z3w h,_,fun _=>qv5 h,_,fun _=>ql2 ht,fun _=>?_,fun hn=>absurd (by kernel_rfl) hn⟩
 refine qh6 h fun H29 h=>⟨_,_,_,_,_,_,_,_,_,rfl,?_⟩
 refine q5r (c:=Al.c0) h fun H30 h=>⟨_,rfl,hJ _ _ ?_⟩
 unfold qot.r2;refine⟨h.getO 3 rfl,?_⟩;have h:=h.setO 3 rfl (.deferred none);rw [show cfgR Al.c0=true by kernel_rfl];exact k Q9 _ (hs1.trans (hs2.trans (hs3.trans (hs4.trans (hs5.trans (hs6.trans (hs7.trans (hs8.trans hs9)))))))) (h.o [5] 6)
end
end Go.Proofs.YtfmkddccnjidmaaGreatDoor
namespace Go.Nm
theorem qsx {s s':RS}{o:Ot}(h:q8u s=.ok (o,s')):o.1.ser.size≤s.bs.length:=by
 unfold q8u at h
 cases e:q7h s with
 | error e'=>rw [e] at h; cases h
 | ok q=>
  obtain⟨v,s1⟩:=q;rw [e] at h;dsimp only at h;have h1:=q8s e;have h2:=(q5p s1 s1.bs.length).2
  split at h
  ·cases h
  split at h
  ·cases h
  split at h
  ·cases h
  ·cases h
   show (strB (tRes s1.bs.length s1).1).size≤_;rw [q4q]; omega
theorem qsy:∀{n:Nat} {r r':RS} {l:List Ot},q04 r.bs→q4g n r=.ok (l,r')→∀o∈l,o.1.ser.size≤r.bs.length
 | 0,r,r',l,hb,h=>by
  cases h
  exact fun o ho=>absurd ho (by simp)
 | n+1,r,r',l,hb,h=>by
  unfold q4g at h
  cases h1:q4g n r with
  | error e=>rw [h1] at h; cases h
  | ok q=>
  obtain⟨l1,r1⟩:=q;rw [h1] at h;dsimp only at h;have ih:=qsy hb h1;have hl:=qit hb h1
  cases h2:q8u r1 with
  | error e=>rw [h2] at h; cases h
  | ok q=>
  obtain⟨o,r2⟩:=q;rw [h2] at h
  cases h
  intro x hx
  rcases z6g.1 hx with hx|hx
  ·exact ih x hx
  ·rw [z60] at hx;rw [hx];have:=qsx h2;omega
theorem qsz {most:Int}(h0:ShOk most []):∀{n:Nat} {r r':RS} {m:CM},q04 r.bs→q55 most n r=.ok (m,r')→∀p∈m,p.1.ser.size≤r.bs.length
 | 0,r,r',m,hb,h=>by
  cases h
  exact fun o ho=>absurd ho (by simp)
 | n+1,r,r',m,hb,h=>by
  unfold q55 at h
  cases h1:q55 most n r with
  | error e=>rw [h1] at h; cases h
  | ok q=>
  obtain⟨m1,r1⟩:=q;rw [h1] at h;dsimp only at h;have ih:=qsz h0 hb h1;have hl:=qiu h0 hb h1
  cases h2:q8u r1 with
  | error e=>rw [h2] at h; cases h
  | ok q=>
  obtain⟨o,r2⟩:=q;rw [h2] at h;dsimp only at h;have ho:=qsx h2
  split at h
  ·cases h
  cases h
  intro p hp;unfold setS at hp
  split at hp
  ·exact ih p hp
  split at hp
  ·exact ih p hp
  split at hp
  ·exact ih p hp
  rcases q45 hp with rfl|hp
  ·dsimp only; omega
  ·exact ih p hp
theorem qhq {c:Cfg}{bs:List Int}{s:Sta}(hb:q04 bs)(okc:qde c)(h:q5y c bs=.ok s):(∀p∈s.cm,p.1.ser.size≤bs.length)∧(∀o∈s.kept,o.1.ser.size≤bs.length)∧s.kept.length≤bs.length:=by
 unfold q5y at h
 cases h1:upR 4611686018427387903 ⟨0,bs⟩ with
 | error e=>rw [h1] at h; cases h
 | ok q=>
 obtain⟨now,r1⟩:=q;have b1:=qg4 hb h1;rw [h1] at h;dsimp only at h
 cases h2:upR 1099511627776 r1 with
 | error e=>rw [h2] at h; cases h
 | ok q=>
 obtain⟨boots,r2⟩:=q;have b2:=qg4 b1 h2;rw [h2] at h;dsimp only at h
 cases h3:upR 1099511627776 r2 with
 | error e=>rw [h3] at h; cases h
 | ok q=>
 obtain⟨sunk,r3⟩:=q;have b3:=qg4 b2 h3;rw [h3] at h;dsimp only at h
 cases h4:upR now r3 with
 | error e=>rw [h4] at h; cases h
 | ok q=>
 obtain⟨moment,r4⟩:=q;have b4:=qg4 b3 h4;rw [h4] at h;dsimp only at h
 cases h5:q7h r4 with
 | error e=>rw [h5] at h; cases h
 | ok q=>
 obtain⟨value,r5⟩:=q;have b5:=qiw b4 h5;rw [h5] at h;dsimp only at h
 cases h6:q23 64 r5 with
 | error e=>rw [h6] at h; cases h
 | ok q=>
 obtain⟨n,r6⟩:=q;have b6:=q9s b5 h6;rw [h6] at h;dsimp only at h
 cases h7:agsR { newS c with now:=now,boots:=boots,sunk:=sunk } n.toNat r6 with
 | error e=>rw [h7] at h; cases h
 | ok q=>
 obtain⟨x,r7⟩:=q;have b7:=qvf b6 h7;rw [h7] at h;dsimp only at h
 split at h
 ·cases h
 cases h8:q23 1024 r7 with
 | error e=>rw [h8] at h; cases h
 | ok q=>
 obtain⟨m,r8⟩:=q;have b8:=q9s b7 h8;rw [h8] at h;dsimp only at h
 cases h9:q55 c.cells m.toNat r8 with
 | error e=>rw [h9] at h; cases h
 | ok q=>
 obtain⟨cm,r9⟩:=q;have g9:=qg3 (q9b okc).sh b8 h9;rw [h9] at h;dsimp only at h
 cases h10:numR r9 with
 | error e=>rw [h10] at h; cases h
 | ok q=>
 obtain⟨k,r10⟩:=q;have b10:=qpk g9.2 h10;rw [h10] at h;dsimp only at h
 cases h11:q4g k.toNat r10 with
 | error e=>rw [h11] at h; cases h
 | ok q=>
 obtain⟨kept,r11⟩:=q;rw [h11] at h;dsimp only at h
 split at h
 ·cases h
 cases h
 have t1:=q9c h1;have t2:=q9c h2;have t3:=q9c h3;have t4:=q9c h4;have t5:=q8s h5;have t6:=q5b h6;have t7:=qiv h7;have t8:=q5b h8;have t9:=qiu (q9b okc).sh b8 h9;have t10:=qd8 h10;have t11:=qit b10 h11;dsimp only at t1;refine⟨fun p hp=>?_,fun o ho=>?_,?_⟩
 ·have:=qsz (q9b okc).sh b8 h9 p hp;omega
 ·have:=qsy b10 h11 o ho;omega
 ·dsimp only; omega
theorem qlg {H0 H:Heap}{Q:Assn}{F:List Assn}(hs:Sub (old H0) Q)(h:SatL H (Q::F)):Grow H0 H:=(KG.old H0).sub hs H F h
end Go.Nm
namespace Go.Proofs.YtfmkddccnjidmaaGreatDoor
open Go.Nm
section
variable {H0:Heap} {cf:Cfg} {ba:Option Addr} {bc:Nat} {bs:List Int}
set_option maxHeartbeats 4000000 in
theorem CoreParses_true (hlen:bs.length≤maxLen)(hb:rdS H0 ba (bs.map U8))(hbs:q04 bs):CF 3 #[.agg ⟨qrq cf⟩,.slice ba bs.length bc] H0 fun v H'=>v=.bool true∧Grow H0 H':=by
 refine CoreParses.call ?_;unfold CoreParses.code;refine (sat0 H0).al fun b _ h=>?_
 refine z0u (h.o [1,0] 2) fun Q1 H1 hs1 h=>⟨_,rfl,fun hc=>by simp at hc,fun _=>?_⟩
 intro Jn hJ;refine⟨_,_,_,_,_,_,_,_,_,fun _=>h.rds 1 rfl rfl,fun hc=>?_,fun hc=>?_⟩
 ·rw [z58] at hc;have hK:XsK Q1 none []:=⟨fun H F _=>qa0 H _,fun x hx=>absurd hx (by simp),by simp⟩
  refine z0h (cf:=cf) (xs:=[]) h hK fun H2 h=>⟨_,rfl,hJ _ _ ?_⟩
  unfold CoreParses.r4;refine⟨fun _=>⟨rfl,qlg hs1 h⟩,fun _=>?_⟩
  refine⟨_,_,_,_,_,_,_,_,_,h.rds 1 rfl rfl,?_⟩;have hK0:=KIn.old hb;refine qoj h (fun H h=>(hK0.sub hs1).at h 0 rfl) (by omega) fun a' c' H3 h=>⟨_,_,_,rfl,h.rds 2 rfl rfl,?_⟩
  have hsA:a'=none∨∃k o,a'=some ⟨k,o,none⟩:=by
   rcases (q3r (F:=star _) h).2 with ⟨h2,_⟩|⟨b,pre,post,e',fr,h2,_⟩
   ·exact .inl h2
   ·exact .inr ⟨_,_,h2⟩
  have h:=h.o [1,0,2] 3;refine qnf (c:=cf) h (fun H h=>h.sl_rd 0 rfl) hsA hbs (by omega) (fun hR s hp=>?_) (fun hc H4 h=>?_) (fun hR e he=>?_) fun hR s hp=>?_
  ·have:=qhq hbs (qh2 hR) hp;exact⟨⟨fun p hp=>by have:=this.1 p hp; omega,fun o ho=>by have:=this.2.1 o ho; omega⟩,by omega⟩
  ·refine⟨_,_,rfl,fun hf=>absurd hf (by simp),fun _=>⟨fun _=>?_,fun hf=>absurd hf (by simp)⟩⟩
   intro Jn2 hJ2;refine⟨_,_,_,_,_,_,_,_,_,fun _=>h.rds 2 rfl rfl,fun _=>?_,fun hf=>absurd hf (by simp)⟩
   refine q5r (c:=cf) h fun H5 h=>⟨_,rfl,hJ2 _ _ ?_⟩
   unfold CoreParses.r2;rw [hc];exact⟨rfl,qlg hs1 h⟩
  ·intro Q2 H4 hs2 h;refine⟨_,_,rfl,fun hf=>absurd hf (by simp),fun _=>⟨fun hf=>absurd hf (by simp),fun _=>?_⟩⟩
   intro Jn3 hJ3;refine⟨_,_,_,_,_,_,_,_,_,fun _=>h.rds 2 rfl rfl,fun _=>?_,fun hf=>absurd hf (by simp)⟩
   refine q5r (c:=cf) h fun H5 h=>⟨_,rfl,hJ3 _ _ ?_⟩
   unfold CoreParses.r3;rw [hR];exact⟨rfl,qlg (hs1.trans hs2) h⟩
  ·have hp1:q5y cf bs=.ok s∧stB s=bs:=by
    unfold qg1 at hp;rw [if_neg (by rw [hR]; simp)] at hp
    cases hq:q5y cf bs with
    | error e=>rw [hq] at hp; cases hp
    | ok s1=>
     rw [hq] at hp;dsimp only at hp
     split at hp
     ·rename_i he; cases hp; exact⟨rfl,he⟩
     ·cases hp
   have hsm:=qhq hbs (qh2 hR) hp1.1;intro Q2 sb H4 hs2 h;refine⟨_,_,rfl,fun _=>?_,fun hf=>absurd hf (by simp)⟩
   intro Jn1 hJ1;refine⟨_,_,_,_,_,_,_,_,_,fun _=>h.rds 3 rfl rfl,fun _=>?_,fun hf=>absurd hf (by simp)⟩
   refine q5r (c:=cf) h fun H5 h=>⟨_,rfl,fun _=>?_,fun hf=>absurd hR hf⟩
   refine qeb (qsl hbs (qh2 hR) hp1.1) ⟨fun p hp=>by have:=hsm.1 p hp; omega,fun o ho=>by have:=hsm.2.1 o ho; omega⟩ (by omega) h fun a2 c2 H6 h=>⟨_,_,_,rfl,?_⟩
   have hr:=h.sl_rd 0 rfl;have hr2:=(hK0.sub (hs1.trans hs2)).at h 1 rfl;refine⟨_,qln (d:=bc) hr hr2 (by rw [hp1.2]; omega),hJ1 _ _ ?_⟩;unfold CoreParses.r1;refine⟨?_,qlg (hs1.trans hs2) (h.o [1,0] 2)⟩;rw [hp1.2]; simp
 ·refine hJ _ _ ?_;unfold CoreParses.r4;exact⟨fun _=>⟨rfl,qlg hs1 h⟩,fun hf=>absurd hf (by simp)⟩
end
end Go.Proofs.YtfmkddccnjidmaaGreatDoor
