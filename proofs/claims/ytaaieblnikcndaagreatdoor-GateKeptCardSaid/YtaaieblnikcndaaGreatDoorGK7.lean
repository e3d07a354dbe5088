/-
  Lemmas for GateKept: part 7 of what it rests on. Conditions: none.
-/
import Derived.Test.YtaaieblnikcndaaGreatDoorGK6
set_option linter.unusedVariables false
set_option linter.unusedSimpArgs false
set_option maxRecDepth 100000
set_option maxHeartbeats 16000000
open Go.IntKind (i64 u64 i8 u8 i32 u32 i16 u16)
namespace Go.Proofs.YtaaieblnikcndaaGreatDoor
open Go
structure Fl where
 t:Int
 out:Bool
 was:Bool
 held:Bool
deriving DecidableEq
def Fl.z:Fl:=⟨0,false,false,false⟩
abbrev encF(x:Fl):Os:=[.int .i64 x.t,.bool x.out,.bool x.was,.bool x.held]
abbrev mO(x:Fl):Value:=.agg #[.int .i64 x.t,.bool x.out,.bool x.was,.bool x.held]
abbrev FM:=List (Int×Fl)
abbrev isT(t:Int):Prop:=0<=t/\t<=4611686018427387903
abbrev isAg(a:Int):Prop:=0<=a/\a<64
structure MS where
 lag:Int
 now:Int
 value:Int
 m:FM
deriving DecidableEq
structure MOk(s:MS):Prop where
 l1:1<=s.lag
 l2:s.lag<=1099511627776
 n:isT s.now
 v1:-s.lag<=s.value
 v2:s.value<=4611686018427387903
 nd:(aG s.m).Nodup
 rows:∀p∈s.m,isAg p.1/\isT p.2.t
def MS.new(lag:Int):MS:=⟨lag,0,-lag,[]⟩
def MS.join(s:MS)(a t:Int):MS×Int:=
 if ¬isAg a\/¬isT t then (s,11) else
 match aJ a s.m with
 | some _=>(s,18)
 | none=>({ s with m:=mset a ⟨t,false,false,false⟩ s.m },0)
def MS.raise(s:MS)(a t:Int):MS×Int:=
 match aJ a s.m with
 | none=>(s,19)
 | some x=>if ¬isT t then (s,11) else ({ s with m:=mset a ⟨if t>x.t then t else x.t,x.out,x.was,x.held⟩ s.m },0)
def MS.hold(s:MS)(a:Int)(b:Bool):MS×Int:=
 match aJ a s.m with
 | none=>(s,19)
 | some x=>({ s with m:=mset a ⟨x.t,x.out,x.was,b⟩ s.m },0)
def MS.leave(s:MS)(a:Int):MS×Int:=
 match aJ a s.m with
 | none=>(s,19)
 | some _=>({ s with m:=bT a s.m },0)
def kr(lim:Int)(x:Fl):Fl:=⟨x.t,decide (x.t<lim),x.was||decide (x.t<lim),x.held⟩
def nT(lim:Int)(s:Int×Bool)(x:Fl):Int×Bool:=
 if ¬x.t<lim/\x.held=false/\(s.2=false\/x.t<s.1) then (x.t,true) else s
def jB(lim:Int)(m:FM):List Int->Int×Bool->Int×Bool
 | [],s=>s
 | k::r,s=>jB lim m r (nT lim s ((aJ k m).getD Fl.z))
abbrev maxI(a b:Int):Int:=if b>a then b else a
def MS.tick(s:MS)(now:Int):MS×Int:=
 if ¬isT now\/now<s.now then (s,11) else
 ({ s with now:=now,value:=maxI s.value (jB (now-s.lag) s.m (sortI (aG s.m)) (now-s.lag,false)).1,m:=s.m.map λp=>(p.1,kr (now-s.lag) p.2) },0)
section
variable {κ α:Type}[DecidableEq κ]
theorem JL{k:κ}{v:α}:∀{m:List (κ×α)},(aG m).Nodup->k∈aG m->(m.map λp=>if p.1=k then (k,v) else p).Perm (mset k v m)
 | [],_,h=>by simp at h
 | p::r,hn,h=>by
  simp only[aG,VS,WK]at hn
  by_cases e:p.1=k
  .have a:k∉aG r:=by rw[<-e];exact hn.1
   have e1:(r.map λp=>if p.1=k then (k,v) else p)=r:=by
    conv=>rhs;rw[<-List.map_id r]
    apply WB;intro q b;rw[Vs (λe2=>a (by rw[<-e2];exact V3.2 ⟨q,b,rfl⟩))];rfl
   have e2:bT k (p::r)=r:=by
    have:bT k (p::r)=bT k r:=by simp[bT,Wa,e]
    rw[this,kO (fu.2 a)]
   rw[VS,Vt e,e1];unfold mset;rw[e2]
  .have a:k∈aG r:=by
    simp only[aG,VS,V9]at h;exact h.resolve_left (λe2=>e e2.symm)
   rw[VS,Vs e];refine ((JL (m:=r) hn.2 a).cons p).trans ?_;unfold mset;have:bT k (p::r)=p::bT k r:=by simp[bT,Wa,e]
   rw[this];exact .swap _ _ _
theorem xi{β:Type}{f:κ->α->β}{k:κ}:∀{m:List (κ×α)},aJ k (m.map λp=>(p.1,f p.1 p.2))=(aJ k m).map (f k)
 | []=>rfl
 | p::r=>by
  have a:=xi (f:=f) (k:=k) (m:=r);simp only[VS,aJ]
  split
  .rename_i e;rw[<-e];rfl
  .exact a
omit [DecidableEq κ] in
theorem JM{β:Type}{f:κ->α->β}{m:List (κ×α)}:aG (m.map λp=>(p.1,f p.1 p.2))=aG m:=by simp[aG,Function.comp_def]
end
theorem JN:∀(n:Nat) (l:List Int),l.Nodup->(∀x∈l,0<=x/\x<(n:Int))->l.length<=n
 | 0,l,_,h=>by
  cases l with
  | nil=>simp
  | cons a r=>have:=h a (by simp);omega
 | n+1,l,hn,h=>by
  have d:=JN n (l.erase (n:Int)) (hn.erase _) (λx c=>by
   have b:=(hn.mem_erase_iff).1 c;have:=h x b.2;have:=b.1;omega)
  have e:l.length<=(l.erase (n:Int)).length+1:=by
   by_cases hm:(n:Int)∈l
   .rw [List.length_erase_of_mem hm];omega
   .rw [List.erase_of_not_mem hm];omega
  omega
theorem MOk.le{s:MS}(h:MOk s):s.m.length<=64:=by
 have:=JN 64 (aG s.m) h.nd (λx a=>by
  obtain⟨p,b,rfl⟩:=V3.1 a;exact (h.rows p b).1)
 simpa[aG] using this
theorem MOk.wf{s:MS}(h:MOk s):∀x∈aG s.m,aF x:=by
 intro x a;obtain⟨p,b,rfl⟩:=V3.1 a;have:=(h.rows p b).1;unfold aF;omega
theorem MOk.look{s:MS}(h:MOk s){a:Int}{x:Fl}(b:aJ a s.m=some x):isAg a/\isT x.t:=h.rows _ (hZ b)
theorem MOk.new{lag:Int}(a:1<=lag)(b:lag<=1099511627776):MOk (MS.new lag):=
 ⟨a,b,⟨by simp[MS.new],by simp[MS.new]⟩,VV _,by simp only[MS.new];omega,by simp[MS.new],λp c=>by simp[MS.new]at c⟩
theorem MOk.mset{s:MS}(h:MOk s){a:Int}{x:Fl}(c:isAg a)(d:isT x.t):MOk { s with m:=mset a x s.m }:=
 ⟨h.l1,h.l2,h.n,h.v1,h.v2,oN h.nd,λp b=>by
  rcases V9.1 b with rfl|b
  .exact⟨c,d⟩
  .exact h.rows p (rA.1 b).1⟩
theorem MOk.join{s:MS}(h:MOk s)(a t:Int):MOk (s.join a t).1:=by
 unfold MS.join
 split
 .exact h
 .rename_i b
  split
  .exact h
  .exact h.mset (by omega) (by simp only;omega)
theorem MOk.raise{s:MS}(h:MOk s)(a t:Int):MOk (s.raise a t).1:=by
 unfold MS.raise
 split
 .exact h
 .rename_i x c;have b:=h.look c
  split
  .exact h
  .refine h.mset b.1 ?_;simp only
   split <;> omega
theorem MOk.hold{s:MS}(h:MOk s)(a:Int)(b:Bool):MOk (s.hold a b).1:=by
 unfold MS.hold
 split
 .exact h
 .rename_i x c;exact h.mset (h.look c).1 (h.look c).2
theorem MOk.leave{s:MS}(h:MOk s)(a:Int):MOk (s.leave a).1:=by
 unfold MS.leave
 split
 .exact h
 .exact⟨h.l1,h.l2,h.n,h.v1,h.v2,rB h.nd,λp b=>h.rows p (rA.1 b).1⟩
theorem JO{lim:Int}{m:FM}(hm:∀p∈m,isT p.2.t):∀(ks:List Int) (s:Int×Bool),(s.1<=4611686018427387903)->(jB lim m ks s).1<=4611686018427387903
 | [],s,h=>h
 | k::r,s,h=>by
  refine JO hm r _ ?_;unfold nT
  split
  .simp only
   cases hk:aJ k m with
   | none=>simp[Fl.z]
   | some x=>exact (hm _ (hZ hk)).2
  .exact h
theorem MOk.tick{s:MS}(h:MOk s)(now:Int):MOk (s.tick now).1:=by
 unfold MS.tick
 split
 .exact h
 .rename_i c;have:=h.l1;have:=h.v1;have:=h.v2;have d:=JO (lim:=now-s.lag) (λp a=>(h.rows p a).2) (sortI (aG s.m)) (now-s.lag,false) (by simp only;omega)
  refine⟨h.l1,h.l2,⟨by simp only;omega,by simp only;omega⟩,?_,?_,?_,λp a=>?_⟩
  .simp only[maxI];split <;> omega
  .simp only[maxI];split <;> omega
  .exact (congrArg List.Nodup (JM (f:=λ_ x=>kr (now-s.lag) x) (m:=s.m))).mpr h.nd
  .obtain⟨q,b,rfl⟩:=V3.1 a;exact h.rows q b
def mjT(lim:Int)(m:FM)(l:List Int):FM:=m.map λp=>(p.1,if p.1∈l then kr lim p.2 else p.2)
theorem mjT_nil(lim:Int)(m:FM):mjT lim m []=m:=by
 unfold mjT
 conv=>rhs;rw[<-List.map_id m]
 apply WB;intro p _;simp
theorem mjT_all{lim:Int}{m:FM}{l:List Int}(h:∀x∈aG m,x∈l):mjT lim m l=m.map λp=>(p.1,kr lim p.2):=by
 unfold mjT;apply WB;intro p a;rw[Vt (h p.1 (V3.2 ⟨p,a,rfl⟩))]
theorem JP(lim:Int)(m:FM)(l:List Int):aG (mjT lim m l)=aG m:=JM (f:=λk x=>if k∈l then kr lim x else x) (m:=m)
theorem mjT_look(lim:Int)(m:FM)(l:List Int)(k:Int):aJ k (mjT lim m l)=(aJ k m).map λx=>if k∈l then kr lim x else x:=xi (f:=λk x=>if k∈l then kr lim x else x) (m:=m)
theorem mjT_step{lim:Int}{m:FM}{l:List Int}{k:Int}{x:Fl}(b:(aG m).Nodup)(c:aJ k m=some x):(mset k (kr lim x) (mjT lim m l)).Perm (mjT lim m (l++[k])):=by
 have a:k∈aG (mjT lim m l):=by
  rw[JP];exact V3.2 ⟨_,hZ c,rfl⟩
 refine (JL (by rw[JP];exact b) a).symm.trans ?_;have:(mjT lim m l).map (λp=>if p.1=k then (k,kr lim x) else p)=mjT lim m (l++[k]):=by
  unfold mjT;rw[Wh];apply WB;intro p h;simp only[Function.comp_def,VK,V6]
  by_cases e:p.1=k
  .have f:p.2=x:=by
    have:=mi b (show (p.1,p.2)∈m from h);rw[e,c]at this;exact (Option.some.inj this).symm
   rw[Vt e,Vt (Or.inr e),f,e]
  .rw [Vs e]
   by_cases e2:p.1∈l
   .rw [Vt e2,Vt (Or.inl e2)]
   .rw [Vs e2,Vs (λd=>d.elim e2 e)]
 rw[this]
theorem JQ(lim:Int)(m:FM):∀(l r:List Int) (s:Int×Bool),jB lim m (l++r) s=jB lim m r (jB lim m l s)
 | [],_,_=>rfl
 | k::l,r,s=>JQ lim m l r _
theorem Te{l:List Int}(h:l.Nodup):(sortI l).Nodup:=(ql l).nodup_iff.2 h
theorem JU{l:List Int}{x:Int}:x∈sortI l↔x∈l:=(ql l).mem_iff
theorem Tf{l:List Int}(h:l.Nodup){j:Nat}(c:j<l.length):l[j]∉l.take j:=by
 intro hm;obtain⟨i,hi,b⟩:=Wn hm;rw[List.getElem_take]at b;have a:i<j:=by simp at hi;omega
 exact Yl.1 h i j _ c a b
namespace Ma
theorem mt45:kA Tryz.prog 250 2 185 mO Fl.z:=og Tryz.underlying250 (by kernel_rfl)
theorem ko2:mj Tryz.prog 2 aB:=vO Tryz.underlying2
abbrev markC(mb rb:Nat)(s:MS):aE:=cellsA mb [aB s.lag,aB s.now,aB s.value,.map (some rb)] 252
abbrev mapF(rb:Nat)(m:FM):aE:=mapA aB mO rb m
section
variable {mb rb:Nat}{s:MS}{F:List aE}{H:aD}{K:KE}
theorem isTime_spec{t:Int}:bX Tryz.prog 231 #[aB t] H (.bool (decide (isT t))):=by
 refine cM 231 28 ⟨congrArg Value.bool ?_,rfl⟩;rw[Wb];simp[isT]
theorem JV{a:Int}:bX Tryz.prog 230 #[aB a] H (.bool (decide (isAg a))):=by
 refine cM 230 28 ⟨congrArg Value.bool ?_,rfl⟩;rw[Wb];simp[isAg]
theorem Now_spec(h:aA H F)(i:Nat)(a:aW i F=markC mb rb s):bX Tryz.prog 50 #[.pointer (some ⟨mb,0,none⟩)] H (aB s.now):=by
 unfold bX;refine cM 50 28 ?_;exact⟨_,h.rd i a _,rfl,rfl⟩
theorem Value_spec(h:aA H F)(i:Nat)(a:aW i F=markC mb rb s):bX Tryz.prog 52 #[.pointer (some ⟨mb,0,none⟩)] H (aB s.value):=by
 unfold bX;refine cM 52 28 ?_;exact⟨_,h.rd i a _,rfl,rfl⟩
theorem New_spec{lag:Int}(h:aA H F)(k1:lag<1\/1099511627776<lag->K (.tuple #[.pointer none,aB 11]) H)
  (k2:1<=lag->lag<=1099511627776->∀mb rb b,aA b (markC mb rb (MS.new lag)::mapF rb []::F)->K (.tuple #[.pointer (some ⟨mb,0,none⟩),aB 0]) b) :
  CF 181 #[aB lag] H K:=by
 refine cM 181 476 ⟨λa=>k1 (by simpa using a),λa=>?_⟩
 have a:1<=lag/\lag<=1099511627776:=by simp at a;omega
 refine h.alm aB mO λrb _ h=>?_
 rw[aK (x:=0-lag)];refine h.al λmb _ h=>k2 a.1 a.2 mb rb _ ?_
 have e:(0:Int)-lag=-lag:=by omega
 rw[e]at h;exact h
theorem Of_spec{a:Int}(h:aA H (markC mb rb s::mapF rb s.m::F))
  (k:∀b,aA b (markC mb rb s::mapF rb s.m::F)->K (.tuple #[mO ((aJ a s.m).getD Fl.z),.bool (aJ a s.m).isSome]) b) :
  CF 118 #[.pointer (some ⟨mb,0,none⟩),aB a] H K:=by
 refine cM 118 284 ?_;refine h.al λ_ _ h=>?_;refine⟨_,Ra2,?_⟩
 refine⟨_,_,_,_,_,h.mp_get mt45 ko2 2 rfl,?_⟩
 repeat (first|refine h.al λ_ _ h=>?_|refine St3 h λ_ h=>?_|refine⟨_,_,_,_,Rs3,?_⟩)
 exact k _ h.tl.tl
theorem Join_spec{a t:Int}(h:aA H (markC mb rb s::mapF rb s.m::F))
  (k:∀c,aA c (markC mb rb (s.join a t).1::mapF rb (s.join a t).1.m::F)->K (aB (s.join a t).2) c) :
  CF 146 #[.pointer (some ⟨mb,0,none⟩),aB a,aB t] H K:=by
 refine cM 146 30546716 ?_;refine⟨_,JV,_,λ_=>isTime_spec,λb=>?_,λb=>?_⟩
 .have e:s.join a t=(s,11):=Vt (by simp only[VE,VP,V0]at b;exact b);rw[e]at k;exact k _ h
 have f:¬(¬isAg a\/¬isT t):=by simpa using b
 refine⟨_,Ra1,?_⟩;refine⟨_,_,_,_,_,h.mp_get mt45 ko2 1 rfl,?_⟩;refine h.al λ_ _ h=>?_;refine St1 h λ_ h=>?_
 cases hl:aJ a s.m with
 | some x=>
  have e:s.join a t=(s,18):=by unfold MS.join;rw[Vs f,hl]
  rw[e]at k;exact⟨λ_=>k _ h.tl,λd=>by cases d⟩
 | none=>
  have e:s.join a t=({ s with m:=mset a ⟨t,false,false,false⟩ s.m },0):=by unfold MS.join;rw[Vs f,hl]
  rw[e]at k;refine⟨λd=>(by cases d),λ_=>?_⟩
  refine⟨_,Ra2,?_⟩;exact h.mp_update (α:=Fl) (v:=⟨t,false,false,false⟩) mt45 ko2 2 rfl λc h=>k _ h.tl
theorem Leave_spec{a:Int}(h:aA H (markC mb rb s::mapF rb s.m::F))
  (k:∀b,aA b (markC mb rb (s.leave a).1::mapF rb (s.leave a).1.m::F)->K (aB (s.leave a).2) b) :
  CF 144 #[.pointer (some ⟨mb,0,none⟩),aB a] H K:=by
 refine cM 144 1186588 ?_;refine⟨_,Ra1,?_⟩;refine⟨_,_,_,_,_,h.mp_get mt45 ko2 1 rfl,?_⟩;refine h.al λ_ _ h=>?_;refine St1 h λ_ h=>?_
 cases hl:aJ a s.m with
 | none=>
  have e:s.leave a=(s,19):=by unfold MS.leave;rw[hl]
  rw[e]at k;exact⟨λ_=>k _ h.tl,λc=>by cases c⟩
 | some x=>
  have e:s.leave a=({ s with m:=bT a s.m },0):=by unfold MS.leave;rw[hl]
  rw[e]at k;refine⟨λc=>(by cases c),λ_=>?_⟩
  refine⟨_,Ra2,?_⟩;exact h.mp_delete mt45 ko2 2 rfl λb h=>k _ h.tl
theorem Clone_spec(h:aA H (markC mb rb s::mapF rb s.m::F))
  (k:∀a b c,aA c (markC a b s::mapF b s.m::markC mb rb s::mapF rb s.m::F)->K (.pointer (some ⟨a,0,none⟩)) c) :
  CF 59 #[.pointer (some ⟨mb,0,none⟩)] H K:=by
 refine cM 59 4380 ?_;refine⟨_,_,_,_,h.q 0,?_⟩
 repeat (first|refine h.al λ_ _ h=>?_|refine⟨_,Ra2,?_⟩|refine St2 h λ_ h=>?_)
 refine Gb h 2 rfl λc h _=>⟨_,rfl,?_⟩
 refine h.st 1 rfl rfl λ_ h=>?_
 exact k _ _ _ (h.o [1,0,2,3] 4)
theorem AQ{a:Int}{f:FuncId}{cap:Os}(c:bJ f X.calls=true)(h:aA H (markC mb rb s::mapF rb s.m::F))
  (k1:aJ a s.m=none->∀n,aA n (markC mb rb s::mapF rb s.m::F)->K (aB 19) n)
  (hb:∀x,aJ a s.m=some x->∀b w,aA w (cellsA b (encF x) 185::markC mb rb s::mapF rb s.m::F)->
   CF f ⟨(.pointer (some ⟨b,0,none⟩))::cap⟩ w λu i=>(∃r:Int,u=aB r/\r≠0/\K (aB r) i)\/
    (u=aB 0/\∃e j,aA i (cellsA b (encF e) 185::markC mb rb s::mapF rb s.m::j)/\∀y,aA y (markC mb rb s::mapF rb (mset a e s.m)::j)->K (aB 0) y)) :
  CF 151 #[.pointer (some ⟨mb,0,none⟩),aB a,.func (.func f) #[] ⟨cap⟩] H K:=by
 refine cM 151 298982172 ?_;refine⟨_,Ra1,?_⟩;have d:=h.mp_get mt45 ko2 1 rfl (x:=a)
 cases hm:aJ a s.m with
 | none=>
  rw[hm]at d;refine⟨_,_,_,_,_,d,?_⟩;refine h.al λ_ _ h=>?_;refine St1 h λ_ h=>?_
  exact⟨λ_=>k1 hm _ h.tl,λc=>by cases c⟩
 | some x=>
  rw[hm]at d;refine⟨_,_,_,_,_,d,?_⟩;refine h.al λ_ _ h=>?_;refine St1 h λ_ h=>?_
  refine⟨λc=>(by cases c),λ_=>⟨c,(hb x hm _ _ h).mono λu i A=>?_⟩⟩
  rcases A with ⟨r,rfl,B,t⟩|⟨rfl,e,j,k,t⟩
  .exact⟨r,rfl,λ_=>t,λc=>Vu (by simpa using c) B⟩
  .refine⟨0,rfl,λc=>by simp at c,λ_=>?_⟩
   refine⟨_,k.r 1,_,_,_,_,k.q 0,?_⟩;exact k.mp_update (α:=Fl) (v:=e) mt45 ko2 2 rfl λn h=>t _ h.tl
theorem Raise_spec{a t:Int}(h:aA H (markC mb rb s::mapF rb s.m::F))
  (k:∀i,aA i (markC mb rb (s.raise a t).1::mapF rb (s.raise a t).1.m::F)->K (aB (s.raise a t).2) i) :
  CF 157 #[.pointer (some ⟨mb,0,none⟩),aB a,aB t] H K:=by
 refine cM 157 28 ?_;refine h.al λc _ h=>?_
 refine AQ (F:=cellsA c [aB t] 2::F) (by kernel_rfl) (h.o [1,2,0] 3) (λn i h=>⟨_,rfl,?_⟩) λx j b u h=>?_
 .have e:s.raise a t=(s,19):=by unfold MS.raise;rw[n]
  rw[e]at k;exact k _ (h.o [0,1] 3)
 refine cM 245 7452 ?_;refine⟨_,h.r 3,_,isTime_spec,λd=>?_,λd=>?_⟩
 .have f:¬isT t:=by simp only[VP,V0]at d;exact d
  have e:s.raise a t=(s,11):=by unfold MS.raise;rw[j];exact Vt f
  rw[e]at k;exact .inl ⟨11,rfl,by decide,_,rfl,k _ (h.o [1,2] 4)⟩
 .have f:¬¬isT t:=by simpa using d
  have e:s.raise a t=({ s with m:=mset a ⟨if t>x.t then t else x.t,x.out,x.was,x.held⟩ s.m },0):=by unfold MS.raise;rw[j];exact Vs f
  rw[e]at k;refine⟨_,h.r 0,_,h.r 3,?_⟩;refine h.st 0 rfl rfl λ_ h=>.inr ⟨rfl,⟨if t>x.t then t else x.t,x.out,x.was,x.held⟩,_,h,λv h=>⟨_,rfl,?_⟩⟩
  exact k _ (h.o [0,1] 3)
theorem Hold_spec{a:Int}{v:Bool}(h:aA H (markC mb rb s::mapF rb s.m::F))
  (k:∀d,aA d (markC mb rb (s.hold a v).1::mapF rb (s.hold a v).1.m::F)->K (aB (s.hold a v).2) d) :
  CF 68 #[.pointer (some ⟨mb,0,none⟩),aB a,.bool v] H K:=by
 refine cM 68 28 ?_;refine h.al λc _ h=>?_
 refine AQ (F:=cellsA c [.bool v] 4::F) (by kernel_rfl) (h.o [1,2,0] 3) (λf d h=>⟨_,rfl,?_⟩) λx i b j h=>?_
 .have e:s.hold a v=(s,19):=by unfold MS.hold;rw[f]
  rw[e]at k;exact k _ (h.o [0,1] 3)
 refine cM 152 284 ?_;have e:s.hold a v=({ s with m:=mset a ⟨x.t,x.out,x.was,v⟩ s.m },0):=by unfold MS.hold;rw[i]
 rw[e]at k;refine⟨_,h.r 3,?_⟩;refine h.st 0 rfl rfl λ_ h=>.inr ⟨rfl,⟨x.t,x.out,x.was,v⟩,_,h,λn h=>⟨_,rfl,?_⟩⟩
 exact k _ (h.o [0,1] 3)
end
section
variable {mb rb:Nat}{s:MS}{F:List aE}{H:aD}{K:KE}
theorem All_spec(h:aA H F)(k:∀c0 a,aA a (cellsA c0 [.pointer (some ⟨mb,0,none⟩)] 140::F)->K (.func (.func 295) #[] #[.pointer (some ⟨c0,0,none⟩)]) a) :
  CF 246 #[.pointer (some ⟨mb,0,none⟩)] H K:=by
 refine cM 246 28 ?_;refine h.al λ_ _ h=>?_
 exact k _ _ h
abbrev dz(s:MS):List Int:=sortI (aG s.m)
abbrev atF(s:MS)(a:Int):Fl:=(aJ a s.m).getD Fl.z
theorem ks_len:(dz s).length=s.m.length:=by simp[dz,vQ,aG]
theorem All1_spec{l c0:Nat}(ok:MOk s)(A:Nat->aE)(I:aE)(B:aE)
  (h:aA H (markC mb rb s::mapF rb s.m::B::cellsA c0 [.pointer (some ⟨mb,0,none⟩)] 140::F))
  (E:∀G b,aA b (markC mb rb s::mapF rb s.m::B::G)->aA b (A 0::G))
  (N:∀j (J:j<(dz s).length) (G:List aE) (n:aD) (w:KE),aA n (A j::G)->(∀e,aA e (A (j+1)::G)->w (.bool true) e)->(∀e,aA e (I::G)->w (.bool false) e)->
   fJ Tryz.prog l [aB (dz s)[j],mO (atF s (dz s)[j])] n w)
  (k:∀b,aA b (A (dz s).length::cellsA c0 [.pointer (some ⟨mb,0,none⟩)] 140::F)->K (.tuple #[]) b)
  (R:∀b,aA b (I::cellsA c0 [.pointer (some ⟨mb,0,none⟩)] 140::F)->K (.tuple #[]) b) :
  CF 295 #[.func (.yield l) #[] #[],.pointer (some ⟨c0,0,none⟩)] H K:=by
 refine cN 295 0x11561239925113994 [[(15,sI)]] ?_;have P:=ok.le;have L:(dz s).length=s.m.length:=ks_len;refine⟨_,Ra4,?_⟩;refine⟨_,Ra4,?_⟩;refine Gb h 1 rfl λn M _=>⟨_,rfl,?_⟩
 refine Pe ⟨_,_,rfl,?_⟩;refine Pf M 0 rfl ok.wf (by omega) λa c e v _=>⟨_,_,_,rfl,?_⟩
 have v:=E _ _ (v.o [2,3,4,0,1] 5);refine⟨λt b=>∃j:Nat,t=j/\j<=(dz s).length/\aA b (A j::slA 2 1 a s.m.length c ((dz s).map aB)::mapF H.size s.m::cellsA c0 [.pointer (some ⟨mb,0,none⟩)] 140::F),
  λt _=>(dz s).length-t.toNat,⟨0,rfl,VQ _,v⟩,?_⟩
 rintro t Q ⟨j,rfl,J,i⟩;refine⟨λy=>?_,λy=>?_⟩
 .have d:j<(dz s).length:=by have:=Vw y;omega
  have f:=(i.sl_rd 1 rfl).at d;have u:=i.mp_get1 mt45 ko2 2 rfl (x:=(dz s)[j]);refine⟨⟨by omega,by omega⟩,_,_,f.1,_,f.2,_,_,_,_,u,?_⟩;refine N j d _ Q _ i (λO C=>⟨true,rfl,λD=>(by cases D),λ_=>?_⟩) λO C=>⟨false,rfl,λ_=>?_,λD=>(by cases D)⟩
  .conv=>whnf
   rw[aK];exact⟨⟨j+1,rfl,d,C⟩,by simp only[V4];omega⟩
  .exact R _ (C.o [0,3] 4)
 .obtain rfl:j=(dz s).length:=by have:=Vx y;omega
  exact k _ (i.o [0,3] 4)
theorem Tg{b c0 c1 c2 c3:Nat}{x:Fl}{now least:Int}{a:Bool}(j:1<=s.lag/\s.lag<=1099511627776)(n:isT now)
  (h:aA H (cellsA b (encF x) 185::markC mb rb s::cellsA c0 [aB now] 2::cellsA c1 [.pointer (some ⟨mb,0,none⟩)] 140::cellsA c2 [.bool a] 4::cellsA c3 [aB least] 2::F))
  (k:∀i,aA i (cellsA b (encF (kr (now-s.lag) x)) 185::markC mb rb s::cellsA c0 [aB now] 2::cellsA c1 [.pointer (some ⟨mb,0,none⟩)] 140::cellsA c2 [.bool (nT (now-s.lag) (least,a) x).2] 4::cellsA c3 [aB (nT (now-s.lag) (least,a) x).1] 2::F)->K (aB 0) i) :
  CF 247 #[.pointer (some ⟨b,0,none⟩),.pointer (some ⟨c0,0,none⟩),.pointer (some ⟨c1,0,none⟩),.pointer (some ⟨c2,0,none⟩),.pointer (some ⟨c3,0,none⟩)] H K:=by
 refine O1 ?_;refine⟨_,h.r 0,_,h.r 2,_,h.r 3,cZ ⟨_,h.r 1,?_⟩⟩;dsimp only;rw[aK (x:=now-s.lag)];refine h.st 0 rfl rfl λ_ h=>?_
 refine⟨_,h.r 0,λ_=>trivial,_,λ_=>h.r 0,?_⟩
 refine h.st 0 rfl rfl λ_ h=>?_
 refine⟨_,h.r 0,λ_=>trivial,_,λ_=>h.r 0,_,λ_=>h.r 4,λ_=>trivial,_,λ_=>h.r 0,_,λ_=>h.r 5,?_⟩
 intro m f;refine⟨λc=>?_,λc=>?_⟩
 .have e:nT (now-s.lag) (least,a) x=(x.t,true):=Vt (by
   simp only[Vz,VE,VP,V0,Vy]at c;exact⟨c.1.1,c.1.2,c.2⟩)
  rw[e]at k;refine⟨_,h.r 0,?_⟩;refine h.st 5 rfl rfl λ_ h=>h.st 4 rfl rfl λ_ h=>f _ ?_
  exact k _ h
 .have e:nT (now-s.lag) (least,a) x=(least,a):=Vs (λd=>by
   rw[<-Bool.not_eq_true]at c;apply c;simp only[Vz,VE,VP,V0,Vy];exact⟨⟨d.1,d.2.1⟩,d.2.2⟩)
  rw[e]at k;exact f _ (k _ h)
def tkA(mb rb b b1 lb fb l:Nat)(R:Loop)(s:MS)(now:Int)(j:Nat):aE:=
 star [markC mb rb { s with now:=now },mapF rb (mjT (now-s.lag) s.m ((dz s).take j)),cellsA b [.pointer (some ⟨mb,0,none⟩)] 140,cellsA b1 [aB now] 2,
  cellsA lb [aB (jB (now-s.lag) s.m ((dz s).take j) (now-s.lag,false)).1] 2,cellsA fb [.bool (jB (now-s.lag) s.m ((dz s).take j) (now-s.lag,false)).2] 4,pt l (.loop R)]
theorem Th{b b1 e fb j:Nat}{now:Int}{n v:aD}{R:Loop}{G:List aE}{w:KE}(ok:MOk s)(D:isT now)(k:j<(dz s).length)
  (h:aA v (tkA mb rb b b1 e fb (n.size+1) R s now j::G)) (C:∀u,aA u (tkA mb rb b b1 e fb (n.size+1) R s now (j+1)::G)->w (.bool true) u) :
  yZ.y1 b b1 e 0 fb 0 n R [aB (dz s)[j],mO (atF s (dz s)[j])] v w:=by
 have h:=h.open;unfold yZ.y1;refine⟨_,_,_,_,_,rfl,h.getO 6 rfl,h.getO 6 rfl,h.stl 6 rfl λI h=>⟨_,h.r 2,?_⟩⟩
 obtain⟨x,t⟩:∃x,aJ (dz s)[j] s.m=some x:=by
  cases hm:aJ (dz s)[j] s.m with
  | some x=>exact⟨x,rfl⟩
  | none=>exact Vu (JU.1 (V7 k)) (fu.1 hm)
 have i:=Tf (Te ok.nd) k;have a:aJ (dz s)[j] (mjT (now-s.lag) s.m ((dz s).take j))=some x:=by rw[mjT_look,t];simp[i]
 have y:(dz s).take (j+1)=(dz s).take j++[(dz s)[j]]:=Wf k;refine AQ (s:={ s with now:=now,m:=mjT (now-s.lag) s.m ((dz s).take j) }) (f:=247) (by kernel_rfl) h (λc=>by rw[a]at c;cases c) λB d bb F h=>?_
 obtain rfl:x=B:=by rw[a]at d;exact Option.some.inj d
 refine Tg (s:={ s with now:=now }) ⟨ok.l1,ok.l2⟩ D (h.o [0,1,4,3,6,5,2,7] 8) λH h=>.inr ⟨rfl,kr (now-s.lag) x,_,h.o [0,1,6,2,3,4,5,7] 8,λE h=>⟨_,rfl,?_⟩⟩
 refine⟨h.getO 6 rfl,C _ ?_⟩;have h:=h.setO 6 rfl (.loop R);unfold tkA;refine aA.shut [_,_,_,_,_,_,_] ?_;have em:mapF rb (mset (dz s)[j] (kr (now-s.lag) x) (mjT (now-s.lag) s.m ((dz s).take j)))=mapF rb (mjT (now-s.lag) s.m ((dz s).take j++[(dz s)[j]])):=nC (mjT_step ok.nd t);rw[y,JQ,<-em];have A:jB (now-s.lag) s.m [(dz s)[j]] (jB (now-s.lag) s.m ((dz s).take j) (now-s.lag,false))=nT (now-s.lag) (jB (now-s.lag) s.m ((dz s).take j) (now-s.lag,false)) x:=by
  show nT _ _ ((aJ _ s.m).getD Fl.z)=_;rw[t];rfl
 rw[A];exact h.o [0,1,3,2,5,4,6] 7
theorem Tick_spec{now:Int}(ok:MOk s)(h:aA H (markC mb rb s::mapF rb s.m::F))
  (k:∀c,aA c (markC mb rb (s.tick now).1::mapF rb (s.tick now).1.m::F)->K (aB (s.tick now).2) c) :
  CF 158 #[.pointer (some ⟨mb,0,none⟩),aB now] H K:=by
 refine OC ?_;refine h.al λb _ h=>h.al λb1 _ h=>?_
 refine⟨_,h.r 0,_,isTime_spec,_,λ_=>h.r 0,_,λ_=>h.rd (1) rfl _,λ_=>trivial,_,λ_=>h.r 2,λd=>?_,λd=>?_⟩
 .have e:s.tick now=(s,11):=Vt (by simp only[VE,VP,V0,Vy]at d;exact d);rw[e]at k;exact k _ h.tl.tl
 have f:¬(¬isT now\/now<s.now):=by
  simp only[VB,Wd,V0,Vy]at d;exact λI=>I.elim (λn=>n d.1) d.2
 have w:isT now:=by
  rcases Classical.em (isT now) with h|h
  .exact h
  .exact Vu (Or.inl h) f
 have e:s.tick now=({ s with now:=now,value:=maxI s.value (jB (now-s.lag) s.m (sortI (aG s.m)) (now-s.lag,false)).1,m:=s.m.map λp=>(p.1,kr (now-s.lag) p.2) },0):=Vs f
 rw[e]at k;have B:=ok.l1;have C:=ok.l2;refine⟨_,h.r 1,_,h.r 0,cZ (h.st 2 rfl rfl λ_ h=>?_)⟩
 intro M J;have fin:∀a fb c,aA c (cellsA b1 [aB now] 2::cellsA b [.pointer (some ⟨mb,0,none⟩)] 140::cellsA a [aB (now-s.lag)] 2::cellsA fb [.bool false] 4::markC mb rb { s with now:=now }::mapF rb s.m::F)->M a 0 fb 0 c:=by
  intro a fb c h;refine J _ _ _ _ _ ?_;refine⟨_,h.r 1,All_spec h λc0 u h=>⟨_,_,rfl,rfl,λR t v E=>?_⟩⟩
  have h:=h.rng R;have h:aA _ (markC mb rb { s with now:=now }::mapF rb s.m::star [cellsA b [.pointer (some ⟨mb,0,none⟩)] 140,cellsA b1 [aB now] 2,cellsA a [aB (now-s.lag)] 2,cellsA fb [.bool false] 4,pt (u.size+1) (.loop R)]::cellsA c0 [.pointer (some ⟨mb,0,none⟩)] 140::pt u.size (.deferred (some []))::F):=
   (aA.shut [_,_,_,_,_] (h.o [4,3,5,6,0,7,8,2,1] 9)).o [1,2,0] 3
  refine All1_spec (s:={ s with now:=now }) ⟨ok.l1,ok.l2,w,ok.v1,ok.v2,ok.nd,ok.rows⟩ (λj=>tkA mb rb b b1 a fb (u.size+1) R s now j) (pur False) _ h (λG c h=>?_)
   (λj y G P Q n L _=>E _ _ _ (Th ok w y n L)) (λD i=>?_) (λD i=>(aA.consP i).1.elim)
  .unfold tkA;rw[WU,mjT_nil];refine aA.shut [_,_,_,_,_,_,_] ?_;exact ((h.o [2,0,1] 3).open).o [5,6,0,1,2,3,4] 7
  .have h:=aA.open (A:=[_,_,_,_,_,_,_]) i;have e1:(dz { s with now:=now }).length=(dz s).length:=rfl;rw[e1,VR (V2 _),mjT_all (λx N=>JU.2 N)]at h
   refine⟨.ready,none,by decide,by rw[nD t v];exact h.getO 6 rfl,h.stl 6 rfl λO h=>⟨rfl,?_⟩⟩
   refine⟨_,h.r 2,_,h.r 2,cZ ⟨_,h.r 0,_,h.r 4,cZ (h.st 0 rfl rfl λ_ h=>⟨h.getO 8 rfl,?_⟩)⟩⟩
   have h:=h.setO 8 rfl (.deferred none);exact k _ (h.o [0,1] 9)
 refine⟨_,h.r 0,_,h.r 1,cZ ⟨_,h.r 2,?_⟩⟩;dsimp only;rw[aK (x:=now-s.lag)];refine⟨h.al λa _ h=>⟨h.r 3,h.r 2,h.r 1,h.al λfb _ h=>⟨h.r 4,h.r 3,h.r 2,h.st 1 rfl rfl λ_ h=>h.st 0 rfl rfl λ_ h=>?_⟩⟩,
  h.al λfb _ h=>⟨h.r 3,h.r 2,h.r 1,h.al λa _ h=>⟨h.r 4,h.r 3,h.r 2,h.st 0 rfl rfl λ_ h=>h.st 1 rfl rfl λ_ h=>?_⟩⟩⟩
 .exact fin a fb _ (h.o [2,3,1,0] 4)
 .exact fin a fb _ (h.o [2,3,0,1] 4)
end
section
variable {mb rb sb:Nat}{s:MS}{F:List aE}{H:aD}{K:KE}
theorem Set_spec{ag:FM}{ab:Nat}{now value:Int}(D:isT now)(J:1<=s.lag/\s.lag<=1099511627776)(G:now-s.lag<=value/\value<=now)(B:∀p∈ag,isAg p.1/\isT p.2.t)
  (h:aA H (markC mb rb s::mapF rb s.m::mapF ab ag::F))
  (k:∀e c,aA c (markC mb e ⟨s.lag,now,value,ag⟩::mapF e ag::mapF ab ag::F)->K (aB 0) c) :
  CF 204 #[.pointer (some ⟨mb,0,none⟩),aB now,aB value,.map (some ab)] H K:=by
 refine cN 204 0x1d121561239951d41c [[]] ?_;have e1:i64.wrap (now-s.lag)=now-s.lag:=aK;refine⟨_,isTime_spec,λ_=>trivial,_,λ_=>h.r 0,?_⟩
 dsimp only
 conv=>whnf
 rw[e1,VF D,Wj (show ¬value<now-s.lag by omega),Wj (show ¬now<value by omega)];refine⟨λa=>(by cases a),λ_=>?_⟩
 refine h.alm aB mO λb _ h=>?_
 refine h.rg_new mt45 3 rfl λu E h=>⟨u,rfl,?_⟩
 refine⟨λc=>∃dn:FM,aA c (mapF b dn::markC mb rb s::mapF rb s.m::kP aB mO u ab ag dn::F),λc=>ag.length-oP c u,⟨[],h⟩,?_⟩
 rintro I ⟨dn,h⟩;obtain⟨y,C⟩:=h.rg_count 3 rfl;refine h.rg_next 3 rfl (λA=>Or.inl ⟨rfl,λa=>(by cases a),λ_=>?_⟩) λp i j M h=>Or.inr ⟨_,_,rfl,λ_=>?_,λa=>(by cases a)⟩
 .have h:=h.rg_map 3 rfl;refine h.st 1 rfl rfl λ_ h=>h.st 1 rfl rfl λ_ h=>h.st 1 rfl rfl λ_ h=>k b _ ?_
  have em:mapF b dn=mapF b ag:=nC A;have h:=h.o [1,0,3] 4;simp only[ordT,aW,ru,put,em]at h;exact h
 .have d:=aA.rg_entry (P:=Tryz.prog) h 3 rfl;obtain⟨w,f⟩:=h.rg_count 3 rfl;rw[Vv,Wi]at w f;refine⟨_,_,_,_,_,d,?_⟩;refine h.al λb2 _ h=>?_
  refine h.st 0 rfl rfl λ_ h=>?_
  have x:=B p i;refine⟨_,JV,_,λ_=>h.r 0,_,λ_=>isTime_spec,?_⟩
  rw[VF x.1,VF x.2];refine⟨λa=>(by cases a),λ_=>⟨_,_,_,_,h.q 0,?_⟩⟩
  refine h.mp_update (α:=Fl) (v:=p.2) mt45 ko2 1 rfl λL h=>⟨⟨dn++[p],?_⟩,?_⟩
  .have em:mapF b (mset p.1 p.2 dn)=mapF b (dn++[p]):=nC (by
    unfold mset;rw[kO (fu.2 j)];exact (List.perm_append_singleton p dn).symm)
   have h:=h.tl;simp only[put,em]at h;exact h
  .obtain⟨n,_⟩:=h.rg_count 4 rfl;rw[Vv,Wi]at n;simp only;omega
end
end Ma
theorem Ti{P:Program}{t e:TypeId}{n:Nat}{f:Nat->Int}{i:Int}(d:P.underlying t=some (.array n e))(h:∀w,(Go.sizeOf e).run P w=.ok 1 w)(c:∀w,(Go.isAgg e).run P w=.ok false w)(h0:0<=i)(b:i<n) :
  lZ P (Instr.index t (.agg ⟨bW .u64 f n 0⟩) (aB i)) (.int .u64 (f i.toNat)):=by
 intro w;have a:=uf .u64 f n 0 i.toNat (by omega);rw[fM]at a;simp only[Instr.index,asIntOf,Sem.run_bind,Sem.run_pure,Result.andThen_ok,fq d];rw[Vt ⟨h0,b⟩];simp only[Sem.run_bind,h,Result.andThen_ok,Wr,part,c];simp[a]
def mP:Nat->RS->List (Nat×Nat)×RS
 | 0,s=>([],s)
 | n+1,s=>(((bM s).1,(bM (bM s).2).1)::(mP n (bM (bM s).2).2).1,(mP n (bM (bM s).2).2).2)
def pz(prev:Option Nat)(p:Nat):Bool:=match prev with|some x=>decide (p<=x)|none=>false
def mQ:List (Nat×Nat)->Option Nat->(Nat->Int)->Option (Nat->Int)
 | [],_,h=>some h
 | (p,q)::r,prev,h=>if pz prev p=true\/65<=p then none else if q=0\/9223372036854775807<q then none else mQ r (some p) (eZ h p q)
def qH(ps:List (Nat×Nat))(q:Nat):Option Nat:=if q=0 then none else some (ps.getD (q-1) (0,0)).1
def sw(n0 n1 n2:Nat)(lo hi:Int)(t:List Int)(ps:List (Nat×Nat)):Cl×Int:=
 if 9223372036854775807<n0\/9223372036854775807<n1\/9223372036854775807<n2 then (Cl.z,10) else
 if t.length≠16 then (Cl.z,10) else
 match mQ ps none Z0 with
 | none=>(Cl.z,10)
 | some h=>if ge ⟨n0,jn t,lo,hi,n1,n2,h⟩ then (⟨n0,jn t,lo,hi,n1,n2,h⟩,0) else (Cl.z,10)
def ku(bs:List Int):Cl×Int:=
 let a:=bM ⟨0,bs⟩
 let b:=bM a.2
 let c:=bM b.2
 let lo:=dE c.2
 let hi:=dE lo.2
 let t:=aZ 16 hi.2
 let n:=bY 65 t.2
 let p:=mP n.1.toNat n.2
 if (dF p.2).e≠0 then (Cl.z,(dF p.2).e) else sw a.1 b.1 c.1 lo.1 hi.1 t.1 p.1
theorem xj{s:RS}(h:aH s.bs):aH (dE s).2.bs:=gK h
theorem JW(s:RS):(dE s).2.bs.length<=s.bs.length:=jR s
theorem JX:∀{l:List (Nat×Nat)} {a:Option Nat} {h g:Nat->Int},wfH h->mQ l a h=some g->wfH g
 | [],_,h,g,hw,e=>by cases e;exact hw
 | (p,q)::r,a,h,g,hw,e=>by
  unfold mQ at e
  split at e
  .cases e
  .split at e
   .cases e
   .rename_i b c;refine JX (l:=r) ?_ e;intro i hi;unfold eZ
    split
    .unfold aF;omega
    .exact hw i hi
theorem Tj{n0 n1 n2:Nat}{lo hi:Int}{t:List Int}{ps:List (Nat×Nat)}(hb:aH t)(a:aF lo)(b:aF hi):WC (sw n0 n1 n2 lo hi t ps).1:=by
 unfold sw
 split
 .exact WC.z
 .split
  .exact WC.z
  .split
   .exact WC.z
   .rename_i d _ g c
    split
    .exact⟨by unfold aF;dsimp only;omega,IQ t hb,a,b,by unfold aF;dsimp only;omega,by unfold aF;dsimp only;omega,JX ug c⟩
    .exact WC.z
theorem Tk{bs:List Int}(hb:aH bs):WC (ku bs).1:=by
 unfold ku;dsimp only
 split
 .exact WC.z
 .exact Tj (lJ (xj (xj (gK (gK (gK (s:=⟨0,bs⟩) hb)))))).2 (rP _) (rP _)
theorem Tl{bs:List Int}(h:(ku bs).2=0):ge (ku bs).1=true:=by
 unfold ku at h ⊢;dsimp only at h ⊢
 split
 .rename_i a;rw[Vt a]at h;exact Vu h a
 .rename_i a;rw[Vs a]at h;unfold sw at h ⊢
  split
  .rename_i b;rw[Vt b]at h;cases h
  .rename_i b;rw[Vs b]at h
   split
   .rename_i d;rw[Vt d]at h;cases h
   .rename_i d;rw[Vs d]at h
    split
    .rename_i c;rw[c]at h;cases h
    .rename_i g c;rw[c]at h;dsimp only at h
     split
     .assumption
     .rename_i e;rw[Vs e]at h;cases h
theorem AR{s:RS}{m:Int}(h:aH s.bs)(hm:0<=m):0<=(bY m s).1/\(bY m s).1<=m:=by
 unfold bY
 split
 .exact⟨VV _,hm⟩
 .split
  .split
   .exact⟨VV _,hm⟩
   .simp only[]at *;omega
  .exact⟨VV _,hm⟩
  .exact⟨VV _,hm⟩
theorem sl279:SlT Tryz.prog 487 488 2 16:=iO (by kernel_rfl)
abbrev encP(p:Nat×Nat):Os:=[U64 p.1,U64 p.2]
theorem xk(p:Nat×Nat):(encP p).length=2:=rfl
def f3(a b c:Nat):Nat->Int:=λi=>match i with|0=>(a:Int)|1=>(b:Int)|_=>(c:Int)
section
variable {F L:List aE}{H:aD}{K:KE}
theorem idx278{a b c:Nat}{i:Int}(h0:0<=i)(d:i<3):lZ Tryz.prog (Instr.index 486 (.agg #[U64 a,U64 b,U64 c]) (aC i)) (.int .u64 (f3 a b c i.toNat)):=
 Ti (f:=f3 a b c) (n:=3) Tryz.underlying486 Tryz.sizeOf56 Tryz.isAgg56 h0 (by omega)
theorem Tm{a:KQ}{c n:Nat}{bs:List Int}(hn:bs.length=n)(hb:aH bs)(h:aA H F)(ha:∀H,aA H F->aP H a (bs.map U8))(hl:n<=1000000000)
  (k:∀D,aA D F->K (.tuple #[aggC (ku bs).1,aC (ku bs).2]) D):CF 263 #[.slice a n c] H K:=by
 subst hn;refine Ox ?_;unfold ku at k;dsimp only at k;refine h.al λb _ h=>?_
 refine rN (bs:=bs) h (λH h=>ha H h.tl) (by omega) λrb H1 h=>⟨_,rfl,?_⟩
 have U:aH (⟨0,bs⟩:RS).bs:=hb;have hL0:(⟨0,bs⟩:RS).bs.length<=1000000000:=hl;refine nL h U (by omega) λH2 h=>⟨_,rfl,?_⟩
 have R:=gK U;have hL1:=jR (⟨0,bs⟩:RS);generalize bM ⟨0,bs⟩=r1 at *;refine nL h R (by omega) λH3 h=>⟨_,rfl,?_⟩
 have T:=gK R;have hL2:=jR r1.2;generalize bM r1.2=r2 at *;refine nL h T (by omega) λH4 h=>⟨_,rfl,?_⟩
 have S:=gK T;have r8:=jR r2.2;generalize bM r2.2=r3 at *;refine h.al λb1 _ h=>?_
 refine h.sta 0 rfl rfl λH6 h=>?_
 have h:=h.o [1,0] 2;refine wt h S (by omega) λH7 h=>⟨_,rfl,?_⟩
 have N:=xj S;have hL4:=JW r3.2;have Z:aF (dE r3.2).1:=rP _;generalize dE r3.2=r4 at *;refine wt h N (by omega) λH8 h=>⟨_,rfl,?_⟩
 have Q:=xj N;have hL5:=JW r4.2;have l5:aF (dE r4.2).1:=rP _;generalize dE r4.2=r5 at *;refine nK (most:=16) h Q (by omega) (by decide) λH9 h=>⟨_,rfl,?_⟩
 have u:=(lJ (m:=16) Q);have hL6:=(mC r5.2 16);generalize aZ 16 r5.2=r6 at *;refine tO (most:=65) h u.1 (by omega) (by decide) λH10 h=>⟨_,rfl,?_⟩
 have h5:=rQ (m:=65) u.1;have hL7:=rR r6.2 65;have j3:=AR (m:=65) u.1 (by decide);generalize bY 65 r6.2=r7 at *;refine⟨λpa pn pc i D=>∃(j:Nat) (d:List (Nat×Nat)) (s:RS),i=j/\(j:Int)<=r7.1/\pn=d.length/\d.length=j/\aH s.bs/\s.bs.length<=1000000000/\
   mP r7.1.toNat r7.2=(d++(mP (r7.1.toNat-j) s).1,(mP (r7.1.toNat-j) s).2)/\
   aA D (crdA rb s::slA 488 2 pa d.length pc (flat encP d)::cellsA b1 [U64 r1.1,U64 r2.1,U64 r3.1] 486::cellsA b (dx Cl.z) 161::F),
  λ_ _ _ i _=>(r7.1-i).toNat,⟨0,[],r7.2,rfl,j3.1,rfl,rfl,h5,by omega,rfl,?_⟩,?_⟩
 .exact ((h.sl_nil 488 2).o [1,0] 2)
 rintro pa pn pc i H11 ⟨j,d,s,rfl,hj,rfl,l6,w,y2,e,h⟩;refine⟨λhc=>?_,λhc=>?_⟩
 .have f:=Vw hc;have r0:=wq w;have hu2:=wq (gK w);refine nL h w (by omega) λH12 h=>⟨_,rfl,?_⟩
  have hl1:=jR s;refine nL h (gK w) (by omega) λH13 h=>⟨_,rfl,?_⟩
  have hl2:=jR (bM s).2;rintro b2 _ rfl rfl;refine h.append1 (ws:=encP ((bM s).1,(bM (bM s).2).1)) sl279 1 rfl rfl rfl (by omega) (by omega) λa' c' H15 h=>⟨_,_,_,rfl,?_⟩
  rw[show i64.wrap ((j:Int)+1)=((j+1:Nat):Int) by rw[aK];omega];refine⟨⟨j+1,d++[((bM s).1,(bM (bM s).2).1)],(bM (bM s).2).2,rfl,by omega,by simp,by simp[l6],gK (gK w),by omega,?_,?_⟩,?_⟩
  .rw [e,show r7.1.toNat-j=(r7.1.toNat-(j+1))+1 by omega,mP,V5];rfl
  .rw [dS,nB,Vv];exact h
  .show (r7.1-((j+1:Nat):Int)).toNat<(r7.1-(j:Int)).toNat
   omega
 .have hge:=Vx hc;have l0:r7.1.toNat-j=0:=by omega
  rw[l0,mP,VT]at e;rw[e]at k;dsimp only at k;refine wu h λH16 h=>⟨_,rfl,λhe=>?_,λhe=>?_⟩
  .rw [Vt (by simpa using he)]at k;refine h.sta 3 rfl rfl λv h=>⟨_,_,_,_,_,_,_,_,h.rda 3 rfl,k _ h.tl.tl.tl.tl⟩
  rw[Vs (by simpa using he)]at k;unfold sw at k;refine⟨_,_,_,h.rda 2 rfl,?_⟩;have h:=h.tl;refine⟨λi D=>∃t:Nat,i=t/\t<=3/\(∀q,q<t->f3 r1.1 r2.1 r3.1 q<=9223372036854775807)/\aA D (slA 488 2 pa d.length pc (flat encP d)::cellsA b1 [U64 r1.1,U64 r2.1,U64 r3.1] 486::cellsA b (dx Cl.z) 161::F),λi _=>3-i.toNat,⟨0,rfl,by omega,λ_ h=>by omega,h⟩,?_⟩
  rintro i H18 ⟨t,rfl,ht,V,h⟩;refine⟨λE=>?_,λE=>?_⟩
  .have f:t<3:=by have:=Vw E;omega
   refine⟨_,idx278 (by omega) (by omega),?_⟩;rw[V4];refine⟨λy=>?_,λy=>?_⟩
   .have y:=Vw y;have:9223372036854775807<r1.1\/9223372036854775807<r2.1\/9223372036854775807<r3.1:=by
     unfold f3 at y
     split at y <;> omega
    rw[Vt this]at k;refine h.sta 2 rfl rfl λv h=>⟨_,_,_,_,_,_,_,_,h.rda 2 rfl,k _ h.tl.tl.tl⟩
   .have y:=Vx y;rw[show i64.wrap ((t:Int)+1)=((t+1:Nat):Int) by rw[aK];omega];refine⟨⟨t+1,rfl,f,λq Y=>?_,h⟩,by simp only[V4];omega⟩
    rcases VO q t with h1|h1
    .exact V q h1
    .obtain rfl:q=t:=by omega
     omega
  .have:t=3:=by have:=Vx E;omega
   subst this;have g0:(r1.1:Int)<=9223372036854775807:=V 0 (by decide);have g1:(r2.1:Int)<=9223372036854775807:=V 1 (by decide);have g2:(r3.1:Int)<=9223372036854775807:=V 2 (by decide);rw[nO]at k;refine⟨by decide,_,h.r 1,by decide,_,h.r 1,by decide,_,h.r 1,?_⟩;dsimp only;rw[aK (x:=(r1.1:Int)) (by omega) g0,aK (x:=(r2.1:Int)) (by omega) g1,aK (x:=(r3.1:Int)) (by omega) g2];refine h.al λb3 _ h=>?_
   refine h.sta 0 rfl (by rw[Vv,rX,Vv,rX];rfl) λr9 h=>?_
   refine h.st 0 rfl rfl λy3 h=>?_
   refine h.st 0 rfl rfl λW h=>?_
   have h:aA W (cellsA b3 (dx ⟨r1.1,0,r4.1,r5.1,r2.1,r3.1,Z0⟩) 161::slA 488 2 pa d.length pc (flat encP d)::cellsA b1 [U64 r1.1,U64 r2.1,U64 r3.1] 486::cellsA b (dx Cl.z) 161::F):=h;refine wo u.2 h λa' c' H24 h=>⟨_,_,_,rfl,?_⟩
   refine Sj (bs:=r6.1) rfl u.2 h (λH h=>h.sl_rd 0 rfl) (by omega) (λL h8 h=>⟨_,_,_,rfl,?_⟩) (λL h8 h=>⟨_,_,_,rfl,?_⟩)
   .rw [Vt L]at k;refine h.al λb4 _ h=>?_
    refine h.sta 0 rfl rfl λh6 h=>⟨λ_=>?_,λhf=>by cases hf⟩
    refine h.sta 5 rfl rfl λv h=>⟨_,_,_,_,_,_,_,_,h.rda 5 rfl,k _ h.tl.tl.tl.tl.tl.tl⟩
   .rw [Vs (λhh=>hh L)]at k
    refine h.al λb4 _ h=>?_
    refine h.sta 0 rfl rfl λh6 h=>⟨λhf=>(by cases hf),λ_=>?_⟩
    refine⟨_,_,h.rda 0 rfl,?_⟩;refine h.st 2 rfl rfl λh2 h=>?_
    have h:aA h2 (cellsA b4 [aC (cx (jn r6.1)),.int .u64 (wlo (jn r6.1))] 157::slA 5 1 a' r6.1.length c' (r6.1.map U8)::cellsA b3 (dx ⟨r1.1,jn r6.1,r4.1,r5.1,r2.1,r3.1,Z0⟩) 161::slA 488 2 pa d.length pc (flat encP d)::cellsA b1 [U64 r1.1,U64 r2.1,U64 r3.1] 486::cellsA b (dx Cl.z) 161::F):=h;have h:=h.o [2,3,5] 6;refine⟨λi D=>∃(q:Nat) (g:Nat->Int),i=q/\q<=d.length/\wfH g/\mQ d none Z0=mQ (d.drop q) (qH d q) g/\aA D (cellsA b3 (dx ⟨r1.1,jn r6.1,r4.1,r5.1,r2.1,r3.1,g⟩) 161::slA 488 2 pa d.length pc (flat encP d)::cellsA b (dx Cl.z) 161::F),λi _=>d.length-i.toNat,
     ⟨0,Z0,rfl,VQ _,ug,rfl,h⟩,?_⟩
    rintro i H30 ⟨q,g,rfl,Y,y,e2,h⟩;refine⟨λI=>?_,λI=>?_⟩
    .have f:q<d.length:=by have:=Vw I;omega
     have A:=h.sl_rd 1 rfl;rw[Wm f,mQ]at e2;refine⟨⟨by omega,by omega⟩,_,_,A.some xk (by omega) f,_,_,A.els xk f,?_⟩;refine h.al λb6 _ h=>?_
     refine h.sta 0 rfl rfl λj2 h=>?_
     have A:=h.sl_rd 2 rfl;have J:((decide (0<(q:Int)))=true)->aL j2 (aU pa) (aS pa+(i64.wrap ((q:Int)-1)).toNat*2+0)=some (.int .u64 ((d.getD (q-1) (0,0)).1:Nat)):=by
      intro h0;have h0:=Vw h0;rw[aK (x:=(q:Int)-1),show ((q:Int)-1).toNat=q-1 by omega];have O:q-1<d.length:=by omega
      have:=(A.els xk O).1;rw[Yd,List.getElem?_eq_getElem O];exact this
     refine⟨λ_=>by decide,_,λ_=>h.r 0,λh0=>by have h0:=Vw h0;rw[aK (x:=(q:Int)-1)];omega,_,_,λ_=>A.some xk (by omega) f,λ_=>by decide,_,J,λ_=>by decide,_,λ_=>h.r 0,?_⟩
     have h4:((decide (0<(q:Int))&&decide (((d[q].1:Nat):Int)<=(((d.getD (q-1) (0,0)).1:Nat):Int)))||decide (65<=((d[q].1:Nat):Int)))=(pz (qH d q) d[q].1||decide (65<=d[q].1)):=by
      unfold qH
      rcases Yp q with h0|h0
      .subst h0;rw[Vt rfl];simp[pz];omega
      .rw [nO];rw[Wb];simp only[pz,VE,Vz,Vy,WR];omega
     dsimp only;rw[h4];have C:(pz (qH d q) d[q].1||decide (65<=d[q].1))=true↔(pz (qH d q) d[q].1=true\/65<=d[q].1):=by rw[VE,Vy]
     refine⟨λB=>?_,λB=>?_⟩
     .rw [Vt (C.1 B)]at e2;rw[e2]at k;refine h.sta 3 rfl rfl λv h=>⟨_,_,_,_,_,_,_,_,h.rda 3 rfl,k _ h.tl.tl.tl.tl⟩
     have h9:¬(pz (qH d q) d[q].1=true\/65<=d[q].1):=λhh=>by rw[C.2 hh]at B;cases B
     rw[Vs h9]at e2;refine⟨by decide,_,h.r 0,λ_=>by decide,_,λ_=>h.r 0,λG=>?_,λG=>?_⟩
     .have:d[q].2=0\/9223372036854775807<d[q].2:=by
       simp only[VE,Vy]at G;omega
      rw[Vt this]at e2;rw[e2]at k;refine h.sta 3 rfl rfl λv h=>⟨_,_,_,_,_,_,_,_,h.rda 3 rfl,k _ h.tl.tl.tl.tl⟩
     have h3:¬(d[q].2=0\/9223372036854775807<d[q].2):=by
      simp only[VB,V0]at G;omega
     rw[Vs h3]at e2;have P:d[q].1<65:=by omega
     refine⟨by decide,_,h.r 0,by decide,_,h.rd 0 rfl _,⟨by omega,by omega⟩,?_⟩;rw[aK (x:=((d[q].2:Nat):Int)),V4];have M:cv (dx ⟨r1.1,jn r6.1,r4.1,r5.1,r2.1,r3.1,g⟩) (7+d[q].1) [aC (d[q].2:Nat)]=dx ⟨r1.1,jn r6.1,r4.1,r5.1,r2.1,r3.1,eZ g d[q].1 (d[q].2:Nat)⟩:=by
      refine (tv [aC (d[q].2:Nat)] [_,_,_,_,_,_,_] (bW .i64 g 65 0) d[q].1).trans ?_;have e3:cv (bW .i64 g 65 0) d[q].1 [aC (d[q].2:Nat)]=bW .i64 (eZ g d[q].1 (d[q].2:Nat)) 65 0:=by
       show (bW .i64 g 65 0).set d[q].1 (aC (d[q].2:Nat))=_;rw[Ab _ _ _ _ _ _ P,VL]
      rw[e3]
     refine⟨h.can 1 rfl _ _ (by rw[kV];simp;omega),?_⟩;intro H35 h7;have h:=h.set 1 rfl (7+d[q].1) [aC (d[q].2:Nat)];rw[M,<-h7]at h;rw[show i64.wrap ((q:Int)+1)=((q+1:Nat):Int) by rw[aK];omega];refine⟨⟨q+1,eZ g d[q].1 (d[q].2:Nat),rfl,f,?_,?_,h.tl⟩,by simp only[V4];omega⟩
     .intro i hi;unfold eZ
      split
      .unfold aF;omega
      .exact y i hi
     .rw [e2];congr 1;unfold qH;rw[nO,Y6,Yd,List.getElem?_eq_getElem f];rfl
    .have j1:q=d.length:=by have:=Vx I;omega
     subst j1;rw[Wu,mQ]at e2;rw[e2]at k;dsimp only at k;refine⟨_,_,_,_,_,_,_,_,h.rda 0 rfl,?_⟩;have wc:WC ⟨r1.1,jn r6.1,r4.1,r5.1,r2.1,r3.1,g⟩:=⟨by unfold aF;dsimp only;omega,IQ _ u.2,Z,l5,by unfold aF;dsimp only;omega,by unfold aF;dsimp only;omega,y⟩;refine uh wc h λu8 h=>⟨_,rfl,λA=>?_,λA=>?_⟩
     .rw [Vs (by simpa using A)]at k;refine h.sta 2 rfl rfl λv h=>⟨_,_,_,_,_,_,_,_,h.rda 2 rfl,k _ h.tl.tl.tl⟩
     .rw [Vt (by simpa using A)]at k;refine⟨_,_,_,_,_,_,_,_,h.rda 0 rfl,?_⟩;refine h.sta 2 rfl (by rw[kV];exact (kV Cl.z).symm) λv h=>⟨_,_,_,_,_,_,_,_,h.rda 2 rfl,k _ h.tl.tl.tl⟩
end
structure bD where
 width:Int
 policy:Int
 most:Int
 lag:Int
 rho:Int
 trust:Int
 agents:Int
 cells:Int
 hold:Int
abbrev bD.gd(c:bD):Gd:=⟨c.width,c.policy,c.most⟩
abbrev oz(c:bD):Os:=[aB c.width,aB c.policy,aB c.most,aB c.lag,aB c.rho,aB c.trust,aB c.agents,aB c.cells,aB c.hold]
structure br where
 ck:Ck
 hs:HS Pv
 last:Int
structure aI where
 cfg:bD
 now:Int
 boots:Int
 sunk:Int
 rows:List En
 ms:MS
 cm:CM
 sts:List (Option br)
 kept:List Ot
section
variable {α:Type}
def cW:Nat->List (Option α)->List (Int×Option α)
 | _,[]=>[]
 | i,none::r=>cW (i+1) r
 | i,some b::r=>((i:Int),some b)::cW (i+1) r
theorem xl:∀{l:List (Option α)} {i:Nat} {p:Int×Option α},p∈cW i l->(i:Int)<=p.1/\p.1<i+l.length
 | [],i,p,h=>by simp[cW]at h
 | none::r,i,p,h=>by
  have a:=xl (l:=r) (i:=i+1) h;simp only[V1];omega
 | some b::r,i,p,h=>by
  simp only[V1]
  rcases V9.1 h with rfl|h
  .simp only;omega
  .have a:=xl (l:=r) (i:=i+1) h;omega
theorem AS{l:List (Option α)}{i k:Nat}(h:k<i):((k:Nat):Int)∉aG (cW i l):=λhm=>by
 obtain⟨p,a,b⟩:=V3.1 hm;have:=xl a;omega
theorem uv:∀{l:List (Option α)} {i k:Nat},aJ ((i+k:Nat):Int) (cW i l)=match l[k]? with|some (some b)=>some (some b)|_=>none
 | [],i,k=>by simp[cW,aJ]
 | none::r,i,0=>by
  simp only[List.getElem?_cons_zero];exact fu.2 (AS (l:=r) (by omega))
 | some b::r,i,0=>by simp[cW,aJ]
 | none::r,i,k+1=>by
  have a:=uv (l:=r) (i:=i+1) (k:=k);rw[show i+1+k=i+(k+1) by omega]at a;simp only[cW,List.getElem?_cons_succ];exact a
 | some b::r,i,k+1=>by
  have a:=uv (l:=r) (i:=i+1) (k:=k);rw[show i+1+k=i+(k+1) by omega]at a;simp only[cW,List.getElem?_cons_succ,aJ];rw[nO];exact a
theorem JY{β:Type}{k:Int}{l:List (Int×β)}(h:k∉aG l):bT k l=l:=kO (fu.2 h)
theorem xm{b:α}:∀{l:List (Option α)} {i k:Nat},k<l.length->(cW i (l.set k (some b))).Perm (mset ((i+k:Nat):Int) (some b) (cW i l))
 | none::r,i,0,_=>by
  simp only[Yh,cW];unfold mset;rw[JY (AS (by omega))];exact .refl _
 | some c::r,i,0,_=>by
  simp only[Yh,cW];unfold mset;have:bT ((i+0:Nat):Int) (((i:Int),some c)::cW (i+1) r)=bT ((i+0:Nat):Int) (cW (i+1) r):=by simp[bT]
  rw[this,JY (AS (by omega))];exact .refl _
 | none::r,i,k+1,h=>by
  have a:=xm (b:=b) (l:=r) (i:=i+1) (k:=k) (by simpa using h);rw[show i+1+k=i+(k+1) by omega]at a;exact a
 | some c::r,i,k+1,h=>by
  have a:=xm (b:=b) (l:=r) (i:=i+1) (k:=k) (by simpa using h);rw[show i+1+k=i+(k+1) by omega]at a;simp only[Y0,cW];refine (a.cons _).trans ?_;unfold mset;have:bT ((i+(k+1):Nat):Int) (((i:Int),some c)::cW (i+1) r)=((i:Int),some c)::bT ((i+(k+1):Nat):Int) (cW (i+1) r):=by
   have d:¬(i:Int)=((i+(k+1):Nat):Int):=by omega
   simp[bT,Wa,d];omega
  rw[this];exact .swap _ _ _
end
abbrev ptV(p:Option Nat):Value:=match p with|some b=>PA b 0|none=>.pointer none
theorem qI:kA Tryz.prog 142 2 169 ptV none:=og Tryz.underlying142 (by kernel_rfl)
def strA(Q:aE)(b:Nat)(s:br):aE:=exS λp:Nat×Nat=>star [cellsA b [PA p.1 0,PA p.2 0,aC s.last] 173,ckA p.1 s.ck,hldA Q p.2 s.hs]
def strsA(Q:aE):List (Option Nat)->List (Option br)->aE
 | some b::bs,some s::ss=>strA Q b s*strsA Q bs ss
 | _::bs,_::ss=>strsA Q bs ss
 | _,_=>emp
theorem pA{Q:aE}{b:Nat}{s:br}:∀{bl:List (Option Nat)} {sts:List (Option br)} {k:Nat},bl[k]?=some none->sts[k]?=some none->
  strA Q b s*strsA Q bl sts=strsA Q (bl.set k (some b)) (sts.set k (some s))
 | [],_,k,h,_=>by simp at h
 | _::_,[],k,_,h=>by simp at h
 | x::bs,y::ss,0,h1,h2=>by
  simp at h1 h2;subst h1;subst h2;rfl
 | none::bs,y::ss,k+1,h1,h2=>pA (bl:=bs) (sts:=ss) (k:=k) (by simpa using h1) (by simpa using h2)
 | some x::bs,none::ss,k+1,h1,h2=>pA (bl:=bs) (sts:=ss) (k:=k) (by simpa using h1) (by simpa using h2)
 | some x::bs,some y::ss,k+1,h1,h2=>by
  have a:=pA (Q:=Q) (b:=b) (s:=s) (bl:=bs) (sts:=ss) (k:=k) (by simpa using h1) (by simpa using h2);show strA Q b s*(strA Q x y*strsA Q bs ss)=strA Q x y*strsA Q (bs.set k (some b)) (ss.set k (some s));rw[<-a,<-jv,rr (strA Q b s),jv]
theorem AT{Q:aE}:∀{n:Nat},strsA Q (List.replicate n none) (List.replicate n none)=emp
 | 0=>rfl
 | n+1=>AT (n:=n)
section
variable {F L:List aE}{H:aD}{K KP:KE}{Q Q':aE}
theorem gV{b:Nat}{s:br}:aA H (strA Q b s::F)↔∃cb hb,aA H (cellsA b [PA cb 0,PA hb 0,aC s.last] 173::ckA cb s.ck::hldA Q hb s.hs::F):=by
 constructor
 .intro h;obtain⟨⟨cb,hb⟩,h⟩:=cK.1 h;exact⟨cb,hb,aA.open (A:=[_,_,_]) h⟩
 .rintro⟨cb,hb,h⟩;exact cK.2 ⟨(cb,hb),aA.shut [_,_,_] h⟩
theorem strA_sub{b:Nat}{s:br}(hs:aM Q Q')(h:aA H (strA Q b s::F)):aA H (strA Q' b s::F):=by
 obtain⟨cb,hb,h⟩:=gV.1 h;have h:=h.o [2,0,1] 3;have h:=A0 hs h;exact gV.2 ⟨cb,hb,h.o [1,2,0] 3⟩
theorem uw(hs:aM Q Q'):∀{bl:List (Option Nat)} {sts:List (Option br)} {F:List aE},aA H (strsA Q bl sts::F)->aA H (strsA Q' bl sts::F)
 | [],_,F,h=>h
 | none::_,[],F,h=>h
 | some _::_,[],F,h=>h
 | none::bs,y::ss,F,h=>uw (bl:=bs) (sts:=ss) hs h
 | some x::bs,none::ss,F,h=>uw (bl:=bs) (sts:=ss) hs h
 | some x::bs,some y::ss,F,h=>by
  have h:aA H (strA Q x y::strsA Q bs ss::F):=gy.1 h;have h:=strA_sub hs h;have h:=h.o [1,0] 2;have h:=uw (bl:=bs) (sts:=ss) hs h;have h:=h.o [1,0] 2;exact gy.2 h
def strmA(Q:aE)(tm:Nat)(sts:List (Option br)):aE:=exS λbl:List (Option Nat)=>star [mapA aC ptV tm (cW 0 bl),strsA Q bl sts,pur (bl.map Option.isSome=sts.map Option.isSome)]
abbrev lQ(Q:aE)(bl:List (Option Nat))(sts:List (Option br))(k:Nat):aE:=strsA Q (bl.set k none) (sts.set k none)
structure Hole(bl:List (Option Nat))(sts:List (Option br))(k b:Nat):Prop where
 lt:k<sts.length
 m:bl.map Option.isSome=sts.map Option.isSome
 at_:bl[k]?=some (some b)
theorem lf{tm:Nat}{sts:List (Option br)}:aA H (strmA Q tm sts::F)↔∃bl,bl.map Option.isSome=sts.map Option.isSome/\aA H (mapA aC ptV tm (cW 0 bl)::strsA Q bl sts::F):=by
 constructor
 .intro h;obtain⟨bl,h⟩:=cK.1 h;have h:=aA.open (A:=[_,_,_]) h;have a:=aA.consP (h.o [2,0,1] 3);exact⟨bl,a.1,a.2⟩
 .rintro⟨bl,a,h⟩;exact cK.2 ⟨bl,aA.shut [_,_,_] ((h.pur a).o [1,2,0] 3)⟩
theorem qJ{bl:List (Option Nat)}{sts:List (Option br)}(h:bl.map Option.isSome=sts.map Option.isSome)(k:Nat):(bl[k]?).map Option.isSome=(sts[k]?).map Option.isSome:=by
 rw[<-List.getElem?_map,<-List.getElem?_map,h]
theorem qK{tm k:Nat}{sts:List (Option br)}{s:br}(h:aA H (strmA Q tm sts::F))(c:sts[k]?=some (some s)) :
  ∃b bl,Hole bl sts k b/\aA H (mapA aC ptV tm (cW 0 bl)::strA Q b s::lQ Q bl sts k::F):=by
 obtain⟨bl,hm,h⟩:=lf.1 h;have a:k<sts.length:=(List.getElem?_eq_some_iff.1 c).1;have i:bl.length=sts.length:=by have:=congrArg List.length hm;simpa using this
 have f:=qJ hm k;rw[c,List.getElem?_eq_getElem (show k<bl.length by omega)]at f;simp only[VX,Option.isSome_some,Option.some.injEq]at f;obtain⟨b,hb⟩:=Y9.1 f;have d:bl[k]?=some (some b):=by rw[List.getElem?_eq_getElem (show k<bl.length by omega),hb]
 refine⟨b,bl,⟨a,hm,d⟩,?_⟩;have e:=pA (Q:=Q) (b:=b) (s:=s) (bl:=bl.set k none) (sts:=sts.set k none) (k:=k) (by rw[List.getElem?_set_self (by omega)]) (by rw[List.getElem?_set_self (by omega)]);rw[Yf,Yf]at e;have e1:bl.set k (some b)=bl:=by rw[<-hb,WG]
 have e2:sts.set k (some s)=sts:=by
  have:sts[k]=some s:=by rw[List.getElem?_eq_getElem a]at c;exact Option.some.inj c
  rw[<-this,WG]
 rw[e1,e2]at e;rw[<-e]at h;have h:=h.o [1,0] 2;have h:=gy.1 h;exact h.o [2,0,1] 3
theorem sx{tm k b:Nat}{bl:List (Option Nat)}{sts:List (Option br)}{s:br}(o:Hole bl sts k b)(h:aA H (mapA aC ptV tm (cW 0 bl)::strA Q b s::lQ Q bl sts k::F)) :
  aA H (strmA Q tm (sts.set k (some s))::F):=by
 have d:bl.length=sts.length:=by have:=congrArg List.length o.m;simpa using this
 have a:=o.lt;have e:=pA (Q:=Q) (b:=b) (s:=s) (bl:=bl.set k none) (sts:=sts.set k none) (k:=k) (by rw[List.getElem?_set_self (by omega)]) (by rw[List.getElem?_set_self (by omega)]);rw[Yf,Yf]at e;have hb:bl[k]'(by omega)=some b:=by have:=o.at_;rw[List.getElem?_eq_getElem (by omega)]at this;exact Option.some.inj this
 have e1:bl.set k (some b)=bl:=by rw[<-hb,WG]
 rw[e1]at e;refine lf.2 ⟨bl,?_,?_⟩
 .rw [o.m,Ye];have c:=qJ o.m k;rw[o.at_,List.getElem?_eq_getElem a]at c;simp only[VX,Option.isSome_some,Option.some.injEq]at c;have:(sts.map Option.isSome)[k]'(by simpa using a)=true:=by simp[<-c]
  rw[Option.isSome_some,<-this,WG]
 .rw [<-e];have h:=h.o [1,2,0] 3;have h:=gy.2 h;exact h.o [1,0] 2
theorem qL{tm k b:Nat}{bl:List (Option Nat)}{sts:List (Option br)}(o:Hole bl sts k b)(h:aA H F)(i:Nat)(c:aW i F=mapA aC ptV tm (cW 0 bl)) :
  di Tryz.prog (Instr.lookup 142 (.map (some tm)) (aC (k:Int)) false) H (PA b 0):=by
 have a:=uv (l:=bl) (i:=0) (k:=k);rw[o.at_,VL]at a;exact ((h.mp_look (x:=((k:Nat):Int)) qI ko2 i c).1 _ a).2
theorem str_nil{tm:Nat}{a:Int}{sts:List (Option br)}(h:aA H (strmA Q tm sts::F))(c:a<0\/sts[a.toNat]?=some none\/sts[a.toNat]?=none) :
  di Tryz.prog (Instr.lookup 142 (.map (some tm)) (aC a) false) H (.pointer none):=by
 obtain⟨bl,hm,h⟩:=lf.1 h;have f:aJ a (cW 0 bl)=none:=by
  rcases (by omega:a<0\/0<=a) with h0|h0
  .exact fu.2 λhm=>by
    obtain⟨p,j,m⟩:=V3.1 hm;have:=xl j;omega
  .have d:=uv (l:=bl) (i:=0) (k:=a.toNat);rw[VL,show ((a.toNat:Nat):Int)=a by omega]at d;rw[d];have b:=qJ hm a.toNat
   rcases c with c|c|c
   .omega
   .rw [c]at b
    cases e:bl[a.toNat]? with
    | none=>rfl
    | some x=>
     rw[e]at b
     cases x with
     | none=>rfl
     | some y=>simp at b
   .rw [c]at b
    cases e:bl[a.toNat]? with
    | none=>rfl
    | some x=>rw[e]at b;simp at b
 exact ((h.mp_look (x:=a) qI ko2 0 rfl).2 f).2
end
structure RightQ(c:Cl):Prop where
 n0:0<=c.n
 cer0:0<=c.cer
 pos0:0<=c.pos
 mm:c.mn<=c.mx
 v:∀i,i<65->0<=c.h i
 sum:sumC c.h=c.n
 z:c.n=0->c.sum=0/\c.mn=0/\c.mx=0
 nz:c.n≠0->c.h (bZ c.mn).toNat≠0/\c.h (bZ c.mx).toNat≠0/\∀i,i<65->c.h i=0\/(bZ c.mn<=i/\(i:Int)<=bZ c.mx)
theorem ux{c:Cl}:ge c=true↔RightQ c:=by
 unfold ge
 constructor
 .intro h;simp only[Vz,VP,VB,V0,Vy]at h;obtain⟨⟨⟨⟨⟨⟨f,m⟩,j⟩,k⟩,d⟩,e⟩,a⟩:=h;refine⟨by omega,by omega,by omega,by omega,qB.1 d,e,λb=>?_,λb=>?_⟩
  .rw [Vt b]at a;simp only[Vz,Vy]at a;exact⟨a.1.1,a.1.2,a.2⟩
  .rw [Vs b]at a;simp only[Vz,VP,VB,V0]at a;refine⟨a.1.1,a.1.2,λi hi=>?_⟩
   have:=a.2;unfold inB at this;rw[Wg]at this;have:=this i (W2.2 hi);simpa only[VE,Vy] using this
 .intro h;simp only[Vz,VP,VB,V0,Vy];refine⟨⟨⟨⟨⟨⟨by have:=h.n0;omega,by have:=h.cer0;omega⟩,by have:=h.pos0;omega⟩,by have:=h.mm;omega⟩,qB.2 h.v⟩,h.sum⟩,?_⟩
  by_cases b:c.n=0
  .rw [Vt b];have:=h.z b;simp only[Vz,Vy];exact⟨⟨this.1,this.2.1⟩,this.2.2⟩
  .rw [Vs b];have:=h.nz b;simp only[Vz,VP,VB,V0];refine⟨⟨this.1,this.2.1⟩,?_⟩;unfold inB;rw[Wg];intro i hi;simp only[VE,Vy];exact this.2.2 i (W2.1 hi)
theorem Tn{c:Cl}{b:Bool}(h:(gP c b).2=0):ge (gP c b).1=true:=by
 unfold gP at h ⊢
 split at h
 .simp at h
 .rename_i e;rw[Vs e];have a:=ux.1 (by simpa using e)
  split at h
  .rename_i hb;rw[Vt hb]
   split at h
   .simp at h
   .rename_i d;rw[Vs d];exact ux.2 ⟨a.n0,by have:=a.cer0;show 0<=c.cer+1;omega,a.pos0,a.mm,a.v,a.sum,a.z,a.nz⟩
  .rename_i hb;rw[Vs hb]
   split at h
   .simp at h
   .rename_i d;rw[Vs d];exact ux.2 ⟨a.n0,a.cer0,by have:=a.pos0;show 0<=c.pos+1;omega,a.mm,a.v,a.sum,a.z,a.nz⟩
theorem To{a b:Nat}(h:a<=b):bitLen a<=bitLen b:=by
 unfold bitLen
 split
 .omega
 .rename_i d;rw[nO];have c:=Nat.log2_self_le d;have e:=(Nat.le_log2 (show b≠0 by omega)).2 (VI c h);omega
theorem xn{v w:Int}(h:v<=w):bZ v<=bZ w:=by
 have e:∀x:Int,bZ x=if x<0 then 0 else if x=0 then 1 else 1+((bitLen x.toNat:Nat):Int):=λ_=>rfl
 have hm:=To (a:=v.toNat) (b:=w.toNat) (by omega);rw[e v,e w]
 by_cases h1:v<0
 .rw [Vt h1]
  by_cases h2:w<0
  .rw [Vt h2];exact VV _
  .rw [Vs h2]
   by_cases h3:w=0
   .rw [Vt h3];decide
   .rw [Vs h3];omega
 .rw [Vs h1,Vs (show ¬w<0 by omega)]
  by_cases h3:w=0
  .rw [Vt (show v=0 by omega),Vt h3];exact VV _
  .rw [Vs h3]
   by_cases h4:v=0
   .rw [Vt h4];omega
   .rw [Vs h4];omega
abbrev mR(f:Nat->Int)(n:Nat):Int:=((List.range n).map f).sum
theorem xo(f:Nat->Int)(n:Nat):mR f (n+1)=mR f n+f n:=by
 unfold mR;rw[List.range_succ,VJ,List.sum_append];simp
theorem JZ(f:Nat->Int)(j:Nat):∀n,mR (eZ f j (f j+1)) n=mR f n+if j<n then 1 else 0
 | 0=>by simp[mR]
 | n+1=>by
  rw[xo,xo,JZ f j n];unfold eZ
  by_cases h:n=j
  .subst h;simp;omega
  .rw [Vs h]
   by_cases h2:j<n
   .rw [Vt h2,pO];omega
   .rw [Vs h2,nO];omega
theorem Ka{f:Nat->Int}:∀{n:Nat},(∀i,i<n->0<=f i)->mR f n<=0->∀i,i<n->f i=0
 | 0,_,_,i,hi=>by omega
 | n+1,h,hs,i,hi=>by
  rw[xo]at hs;have h0:0<=mR f n:=sumR_nn λi hi=>h i (by omega)
  have b:=h n (by omega)
  rcases (by omega:i<n\/i=n) with a|rfl
  .exact Ka (λi hi=>h i (by omega)) (by omega) i a
  .omega
where sumR_nn {f:Nat->Int}:∀{n:Nat},(∀i,i<n->0<=f i)->0<=mR f n
 | 0,_=>by simp[mR]
 | n+1,h=>by
  rw[xo];have:=sumR_nn (n:=n) λi hi=>h i (by omega)
  have:=h n (by omega);omega
theorem Tp{c:Cl}{v:Int}(wc:WC c)(G:aF v)(h:(jW c v).2=0):ge (jW c v).1=true:=by
 unfold jW at h ⊢
 split at h
 .simp at h
 rename_i u;rw[Vs u];have a:=ux.1 (by simpa using u)
 split at h
 .simp at h
 rename_i m;rw[Vs m]
 split at h
 .simp at h
 rename_i C;rw[Vs C]
 split at h
 .simp at h
 rename_i d;rw[Vs d];have e1:(j5 c.n 1).1=c.n+1:=by
  unfold j5 at m ⊢
  split at m
  .rename_i y;rw[Vt y]
  .simp at m
 have bv:=pm G;have e3:(jm c.h v).1=eZ c.h (bZ v).toNat (c.h (bZ v).toNat+1):=by
  unfold jm at d ⊢
  split at d
  .simp at d
  .rename_i I;rw[Vs I]
   split at d
   .simp at d
   .rename_i j;rw[Vs j]
 have k:∀i,i≠(bZ v).toNat->eZ c.h (bZ v).toNat (c.h (bZ v).toNat+1) i=c.h i:=λi hi=>by unfold eZ;rw[Vs hi]
 have hs:eZ c.h (bZ v).toNat (c.h (bZ v).toNat+1) (bZ v).toNat=c.h (bZ v).toNat+1:=by unfold eZ;rw[Vt rfl]
 have A:=a.v (bZ v).toNat (by omega);have E:=a.n0;refine ux.2 ?_;dsimp only;rw[e1,e3];have B:c.n=0->∀i,i<65->c.h i=0:=λh0=>Ka (n:=65) a.v (by have:=a.sum;unfold sumC rowH at this;show ((List.range 65).map c.h).sum<=0;omega)
 refine⟨?_,a.cer0,a.pos0,?_,λi hi=>?_,?_,λh0=>?_,λ_=>?_⟩
 .show 0<=c.n+1;omega
 .have:=a.mm;dsimp only
  by_cases h0:c.n=0
  .simp only[Vt h0];split <;> omega
  .simp only[Vs h0];split <;> split <;> omega
 .dsimp only
  by_cases e:i=(bZ v).toNat
  .subst e;rw[hs];omega
  .rw [k i e];exact a.v i hi
 .have j:=JZ c.h (bZ v).toNat 65;rw[pO]at j;have D:=a.sum;show mR _ 65=c.n+1;rw[j];unfold sumC rowH at D;show ((List.range 65).map c.h).sum+1=_;omega
 .exfalso;have h0:c.n+1=0:=h0;omega
 .dsimp only
  by_cases h0:c.n=0
  .rw [Vt h0,Vt h0,nO,hs];refine⟨by omega,by omega,λi hi=>?_⟩
   by_cases e:i=(bZ v).toNat
   .right;omega
   .left;rw[k i e];exact B h0 i hi
  .rw [Vs h0,Vs h0];have b:=a.nz h0;have f:∀i,c.h i≠0->i<65->eZ c.h (bZ v).toNat (c.h (bZ v).toNat+1) i≠0:=λi hi J=>by
    by_cases e:i=(bZ v).toNat
    .subst e;rw[hs];omega
    .rw [k i e];exact hi
   have H:=pm wc.mn;have F:=pm wc.mx;have m1:∀x,x<=c.mn->bZ x<=bZ c.mn:=λx t=>xn t
   have m2:∀x,c.mx<=x->bZ c.mx<=bZ x:=λx t=>xn t
   refine⟨?_,?_,λi hi=>?_⟩
   .split
    .rw [hs];omega
    .exact f _ b.1 (by omega)
   .split
    .rw [hs];omega
    .exact f _ b.2.1 (by omega)
   .by_cases e:i=(bZ v).toNat
    .right;subst e
     constructor
     .split
      .omega
      .have:=xn (v:=c.mn) (w:=v) (by omega);omega
     .split
      .omega
      .have:=xn (v:=v) (w:=c.mx) (by omega);omega
    .rw [k i e]
     rcases b.2.2 i hi with s|s
     .left;exact s
     .right
      constructor
      .split
       .have:=m1 v (by omega);omega
       .exact s.1
      .split
       .have:=m2 v (by omega);omega
       .exact s.2
theorem nU{κ α:Type}[DecidableEq κ]{x:κ}{v:α}{m:List (κ×α)}{p:κ×α}(h:p∈mset x v m):p=(x,v)\/p∈m:=by
 unfold mset at h
 rcases V9.1 h with h|h
 .exact .inl h
 .exact .inr (Wv.1 h).1
structure sy(m:CM):Prop where
 nd:(aG m).Nodup
 wc:∀p∈m,WC p.2
 rt:∀p∈m,ge p.2=true
 wn:∀p∈m,aF p.1.win
theorem sy.mset{m:CM}(h:sy m){k:Ky}{c:Cl}(b:WC c)(e:ge c=true)(d:aF k.win):sy (mset k c m):=
 ⟨oN h.nd,λp a=>by
  rcases nU a with rfl|a
  .exact b
  .exact h.wc p a,λp a=>by
  rcases nU a with rfl|a
  .exact e
  .exact h.rt p a,λp a=>by
  rcases nU a with rfl|a
  .exact d
  .exact h.wn p a⟩
theorem AU{m:CM}{ser:Fa}{b:Bool}:∀{ws:List Int} {p:Ky×Cl},p∈(ii m ser b ws).1->∃w∈ws,p.1=⟨w,ser⟩/\p.2=(gP (fP m ⟨w,ser⟩) b).1/\(gP (fP m ⟨w,ser⟩) b).2=0
 | [],p,h=>by simp[ii]at h
 | w::r,p,h=>by
  unfold ii at h
  split at h
  .simp at h
  .rename_i h0
   rcases V9.1 h with rfl|h
   .exact⟨w,VA ..,rfl,rfl,by simpa using h0⟩
   .obtain⟨c,a,d⟩:=AU h;exact⟨c,VD _ a,d⟩
theorem Kb{m:CM}{ser:Fa}{b:Bool}:∀{ws:List Int},(ii m ser b ws).2=0->aG (ii m ser b ws).1=ws.map λw=>(⟨w,ser⟩:Ky)
 | [],_=>rfl
 | w::r,h=>by
  unfold ii at h ⊢
  split at h
  .rename_i h0;exact Vu h h0
  .rename_i h0;rw[Vs h0];have a:=Kb (ws:=r) h;show _::aG (ii m ser b r).1=_;rw[a];rfl
theorem Kc:∀{l:CM} {m:CM},sy m->(∀p∈l,WC p.2/\ge p.2=true/\aF p.1.win)->sy (lL l m)
 | [],m,h,_=>h
 | p::r,m,h,hl=>by
  have a:=hl p (VA ..);exact Kc (l:=r) (h.mset a.1 a.2.1 a.2.2) λq b=>hl q (VD _ b)
theorem Tq{κ α:Type}[DecidableEq κ]{x:κ}{v:α}{m:List (κ×α)}(a:(aG m).Nodup):(mset x v m).length=m.length+(if (aJ x m).isNone then 1 else 0):=by
 cases h:aJ x m with
 | none=>rw[Eb h];rfl
 | some u=>rw[Ed a h];rfl
theorem Kd:∀{l:CM} {m:CM},(aG m).Nodup->(aG l).Nodup->((lL l m).length:Int)=m.length+((aG l).filter λk=>(aJ k m).isNone).length
 | [],m,_,_=>by simp[lL]
 | p::r,m,hn,hl=>by
  have a:p.1∉aG r/\(aG r).Nodup:=WK.1 hl;show ((lL r (mset p.1 p.2 m)).length:Int)=_;rw[Kd (l:=r) (oN hn) a.2,Tq hn];have e:(aG r).filter (λk=>(aJ k (mset p.1 p.2 m)).isNone)=(aG r).filter (λk=>(aJ k m).isNone):=by
   apply Yr;intro k b;rw[lD,Vs (λe:k=p.1=>a.1 (e▸b))]
  rw[e];show _=_+(((p.1::aG r).filter λk=>(aJ k m).isNone).length:Int)
  rw[Wa]
  cases (aJ p.1 m).isNone <;> simp <;> omega
theorem wins_wf{first last:Int}(b:aF first)(c:aF last):∀w∈cr first last,aF w:=by
 intro w a;unfold cr at a;obtain⟨i,hi,rfl⟩:=V3.1 a;have:=W2.1 hi;unfold aF at *;omega
theorem Tr(first last:Int)(ser:Fa):((cr first last).map λw=>(⟨w,ser⟩:Ky)).Nodup:=by
 unfold cr;rw[Wh];refine Yo.2 (List.nodup_range.imp λ{a b} c e=>c ?_)
 have:=congrArg Ky.win e;dsimp only[Function.comp]at this;omega
theorem dZ.good{most:Int}{m:CM}(h:dZ most m):sy m:=⟨h.nd,h.wc,h.rt,h.wn⟩
theorem xp{most:Int}{m:CM}{first last:Int}{ser:Fa}(h:dZ most m)(t:aF first)(j:aF last):dZ most (jY most m first last ser).1:=by
 unfold jY
 split
 .exact h
 split
 .exact h
 split
 .exact h
 rename_i s n d;have d:(ii m ser (decide (first=last)) (cr first last)).2=0:=by simpa using d
 have c:=Kc (l:=(ii m ser (decide (first=last)) (cr first last)).1) h.good λp u=>by
  obtain⟨w,i,e1,e2,e3⟩:=AU u;rw[e2,e1];exact⟨I4 (h.cell _) _,Tn e3,wins_wf t j w i⟩
 have f:=Kb d;have a:=Kd (l:=(ii m ser (decide (first=last)) (cr first last)).1) (m:=m) h.nd (by rw[f];exact Tr first last ser);rw[f]at a;refine⟨h.m1,h.m2,c.nd,c.wc,c.rt,c.wn,?_⟩;dsimp only;rw[a];have b:qD most m first last ser=true:=by simpa using n
 unfold qD at b;rw[Vs s]at b
 split at b
 .cases b
 .have b:=Vw b;have e:((((cr first last).map λw=>(⟨w,ser⟩:Ky)).filter λk=>(aJ k m).isNone).length:Int)=jX m ser (cr first last):=by
   unfold jX;rw[List.filter_map,V8];rfl
  rw[e];exact b
theorem Ts{most:Int}{m:CM}{k:Ky}{v:Int}(h:dZ most m)(d:aF v)(e:aF k.win):dZ most (mH m k v).1:=by
 unfold mH
 split
 .exact h
 .rename_i c b
  split
  .exact h
  .rename_i h0;have h0:(jW c v).2=0:=by simpa using h0
   have wc:=h.wc _ (hZ b);have a:=h.good.mset (k:=k) (addC_wf wc d) (Tp wc d h0) e;refine⟨h.m1,h.m2,a.nd,a.wc,a.rt,a.wn,?_⟩;dsimp only;rw[Ed h.nd b];exact h.len
theorem setS_ok{most:Int}{m:CM}{k:Ky}{c:Cl}(h:dZ most m)(wc:WC c)(d:aF k.win):dZ most (jZ most m k c).1:=by
 unfold jZ
 split
 .exact h
 split
 .exact h
 split
 .exact h
 rename_i b f i;have a:=h.good.mset (k:=k) wc (by simpa using f) d;refine⟨h.m1,h.m2,a.nd,a.wc,a.rt,a.wn,?_⟩;dsimp only;have:aJ k m=none:=by
  cases e:aJ k m with
  | none=>rfl
  | some x=>rw[e]at b;simp at b
 rw[Eb this];omega
theorem xq:∀{l:List Ot} {m:CM} {p:Ky×Cl},p∈lM m l->p∈m
 | [],m,p,h=>h
 | o::r,m,p,h=>(Wv.1 (xq (l:=r) h)).1
theorem Ke:∀{l:List Ot} {m:CM},(aG m).Nodup->(aG (lM m l)).Nodup/\(lM m l).length<=m.length
 | [],m,h=>⟨h,V2 _⟩
 | o::r,m,h=>by
  have b:(aG (bT o.1 m)).Nodup:=h.sublist (List.filter_sublist.map _);have a:=Ke (l:=r) b;have c:(bT o.1 m).length<=m.length:=Ys _ _;exact⟨a.1,VI a.2 c⟩
theorem Tt{most:Int}{m:CM}{a:Int}(h:dZ most m):dZ most (nP m a):=by
 have c:=Ke (l:=iC m a) h.nd;exact⟨h.m1,h.m2,c.1,λp b=>h.wc p (xq b),λp b=>h.rt p (xq b),λp b=>h.wn p (xq b),by have:=c.2;have:=h.len;unfold nP;omega⟩
def cQ(ck:Ck)(fl:Fl)(now stamp:Int):Gp×Int:=
 if (ckAt ck stamp).2≠0 then (Gp.z,(ckAt ck stamp).2)
 else if (kR [(ckAt ck stamp).1,⟨fl.t,now⟩]).2≠0 then (Gp.z,13) else ((kR [(ckAt ck stamp).1,⟨fl.t,now⟩]).1,0)
abbrev bG(ms:MS)(a:Int):Fl:=(aJ a ms.m).getD Fl.z
structure JR where
 st:br
 ms:MS
 cm:CM
 reason:Int
 win:Int
 gap:Gp
def eE(c:bD)(now a:Int)(st:br)(ms:MS)(cm:CM)(e:Pv):JR:=
 if e.stamp<st.last then ⟨st,ms,cm,6,0,Gp.z⟩ else
 if (cQ st.ck (bG ms a) now e.stamp).2≠0\/st.ck.held=true then ⟨{ st with last:=e.stamp },ms,cm,2,0,Gp.z⟩ else
 if (cQ st.ck (bG ms a) now e.stamp).1.lo<(ms.raise a (cQ st.ck (bG ms a) now e.stamp).1.lo).1.value then
  ⟨{ st with last:=e.stamp },(ms.raise a (cQ st.ck (bG ms a) now e.stamp).1.lo).1,cm,1,0,(cQ st.ck (bG ms a) now e.stamp).1⟩ else
 if (jY c.cells cm (dM c.gd (cQ st.ck (bG ms a) now e.stamp).1).1 (dM c.gd (cQ st.ck (bG ms a) now e.stamp).1).2.1 (gh e.name e.labs)).2≠0 then
  ⟨{ st with last:=e.stamp },(ms.raise a (cQ st.ck (bG ms a) now e.stamp).1.lo).1,
   (jY c.cells cm (dM c.gd (cQ st.ck (bG ms a) now e.stamp).1).1 (dM c.gd (cQ st.ck (bG ms a) now e.stamp).1).2.1 (gh e.name e.labs)).1,4,0,(cQ st.ck (bG ms a) now e.stamp).1⟩ else
 if (mF c.gd (cQ st.ck (bG ms a) now e.stamp).1).2≠0 then
  ⟨{ st with last:=e.stamp },(ms.raise a (cQ st.ck (bG ms a) now e.stamp).1.lo).1,
   (jY c.cells cm (dM c.gd (cQ st.ck (bG ms a) now e.stamp).1).1 (dM c.gd (cQ st.ck (bG ms a) now e.stamp).1).2.1 (gh e.name e.labs)).1,3,0,(cQ st.ck (bG ms a) now e.stamp).1⟩ else
 ⟨{ st with last:=e.stamp },(ms.raise a (cQ st.ck (bG ms a) now e.stamp).1.lo).1,
  (mH (jY c.cells cm (dM c.gd (cQ st.ck (bG ms a) now e.stamp).1).1 (dM c.gd (cQ st.ck (bG ms a) now e.stamp).1).2.1 (gh e.name e.labs)).1 ⟨(mF c.gd (cQ st.ck (bG ms a) now e.stamp).1).1,gh e.name e.labs⟩ e.value).1,
  if (mH (jY c.cells cm (dM c.gd (cQ st.ck (bG ms a) now e.stamp).1).1 (dM c.gd (cQ st.ck (bG ms a) now e.stamp).1).2.1 (gh e.name e.labs)).1 ⟨(mF c.gd (cQ st.ck (bG ms a) now e.stamp).1).1,gh e.name e.labs⟩ e.value).2≠0 then 4 else 0,
  if (mH (jY c.cells cm (dM c.gd (cQ st.ck (bG ms a) now e.stamp).1).1 (dM c.gd (cQ st.ck (bG ms a) now e.stamp).1).2.1 (gh e.name e.labs)).1 ⟨(mF c.gd (cQ st.ck (bG ms a) now e.stamp).1).1,gh e.name e.labs⟩ e.value).2≠0 then 0 else (mF c.gd (cQ st.ck (bG ms a) now e.stamp).1).1,
  (cQ st.ck (bG ms a) now e.stamp).1⟩
section
variable {F L:List aE}{H:aD}{K KP:KE}{Q Q':aE}
theorem Kf{sb c mb mm cb hb:Nat}{cs:Os}{ms:MS}{ck:Ck}{now a stamp last:Int}(j:ck.smps.length<=8)(v:aT cs 9=some (aC now))(i:aT cs 16=some (PA mb 0))
  (h:aA H (cellsA sb cs 145::Ma.markC mb mm ms::Ma.mapF mm ms.m::cellsA c [PA cb 0,PA hb 0,aC last] 173::ckA cb ck::F))
  (k:∀f,aA f (cellsA sb cs 145::Ma.markC mb mm ms::Ma.mapF mm ms.m::cellsA c [PA cb 0,PA hb 0,aC last] 173::ckA cb ck::F)->
   K (.tuple #[jT (cQ ck (bG ms a) now stamp).1,aC (cQ ck (bG ms a) now stamp).2]) f) :
  CF 156 #[PA sb 0,aC a,PA c 0,aC stamp] H K:=by
 refine cN 156 298920156 [[(11,sI),(14,sA)]] ?_;refine h.al λb _ h=>⟨_,h.r 4,?_⟩
 have h:=h.o [5,0,1,2,3,4] 6;refine Rf j h λy h=>⟨_,_,_,rfl,?_⟩
 unfold cQ at k;generalize ckAt ck stamp=C at *;refine h.al λb1 _ h=>?_
 refine h.st 0 rfl rfl ?_;intro A h;refine⟨λd=>?_,λd=>?_⟩
 .rw [Vt (by simpa using d)]at k;refine h.st 2 rfl rfl ?_;intro n h;refine⟨_,_,h.q 2,?_⟩;exact k _ (h.o [3,4,5,6,1] 7)
 rw[Vs (by simpa using d)]at k;refine⟨_,(h.r 3).trans i,?_⟩;have h:=h.o [4,5,0,1,2,3,6] 7;refine Ma.Of_spec (a:=a) h λn h=>⟨_,_,_,_,_,rfl,?_⟩
 refine h.al λb2 _ h=>?_
 refine h.st 0 rfl rfl ?_;intro B h;intro x w;generalize hM:kR [C.1,⟨(bG ms a).t,now⟩]=M at *;have e:∀pb f,aA f (cellsA pb [aC M.1.lo,aC M.1.hi] 89::cellsA b [aC 0,aC 0] 89::cellsA sb cs 145::Ma.markC mb mm ms::Ma.mapF mm ms.m::cellsA c [PA cb 0,PA hb 0,aC last] 173::ckA cb ck::F)->x M.2 pb 0 f:=by
  intro pb f h;refine w _ _ _ _ ?_;refine⟨λd=>?_,λd=>?_⟩
  .rw [Vt (by simpa using d)]at k;refine h.st 1 rfl rfl ?_;intro n h;exact⟨_,_,h.q 1,k _ h.tl.tl⟩
  .rw [Vs (by simpa using d)]at k;refine⟨_,_,h.q 0,?_⟩;refine h.st 1 rfl rfl ?_;intro n h;exact⟨_,_,h.q 1,k _ h.tl.tl⟩
 refine⟨_,_,h.q 3,_,h.r 0,_,(h.r 6).trans v,?_,?_⟩
 .refine h.al λb3 _ h=>⟨?_,?_⟩
  .refine uc (gs:=[C.1,⟨(bG ms a).t,now⟩]) h (λH h=>h.ce_rd 0 rfl) (by simp) λs h=>⟨_,_,_,rfl,?_⟩
   rw[hM];refine h.al λb4 _ h=>?_
   refine h.st 0 rfl rfl ?_;intro u h;exact e _ _ (h.o [0,7,8,3,4,9,6] 10)
  .refine h.al λb5 _ h=>?_
   refine uc (gs:=[C.1,⟨(bG ms a).t,now⟩]) h (λH h=>h.ce_rd 1 rfl) (by simp) λs h=>⟨_,_,_,rfl,?_⟩
   rw[hM];refine h.st 0 rfl rfl ?_;intro u h;exact e _ _ (h.o [0,7,8,3,4,9,6] 10)
 .refine h.al λb6 _ h=>⟨(h.r 7).trans v,h.r 1,h.q 4,?_⟩
  refine h.al λb7 _ h=>?_
  refine uc (gs:=[C.1,⟨(bG ms a).t,now⟩]) h (λH h=>h.ce_rd 0 rfl) (by simp) λs h=>⟨_,_,_,rfl,?_⟩
  rw[hM];refine h.st 1 rfl rfl ?_;intro u h;exact e _ _ (h.o [1,7,8,3,4,9,6] 10)
theorem Kg(g:Gd)(t:Int):aF (fO g t):=by
 unfold fO
 split
 .split <;> exact i64in _
 .unfold aF;decide
theorem wf_meets(g:Gd)(x:Gp):aF (dM g x).1/\aF (dM g x).2.1:=by
 unfold dM
 split
 .split
  .exact⟨Kg _ _,Kg _ _⟩
  .unfold aF;decide
 .unfold aF;decide
theorem Tu{c:bD}{sb u mm cb:Nat}{p_mb p_hb p_hm y:Nat}{cs:Os}{ms:MS}{cm:CM}{st:br}{now a:Int}{e:Ev}(I:st.ck.smps.length<=8)(ok:dZ c.cells cm)(S:aF e.value)
  (Z:aT cs 9=some (aC now)) (A:(cs.drop 12).take 3=[aC c.width,aC c.policy,aC c.most]) (n:aT cs 16=some (PA p_mb 0)) (D:aT cs 17=some (PA p_hb 0)) (ha:∀H,aA H F->aP H e.la (flat df e.labs))
  (h:aA H (cellsA sb cs 145::Ma.markC p_mb mm ms::Ma.mapF mm ms.m::shC p_hb p_hm c.cells::cz p_hm cm::cellsA u [PA cb 0,PA y 0,aC st.last] 173::ckA cb st.ck::F))
  (k:∀O,aA O (cellsA sb cs 145::Ma.markC p_mb mm (eE c now a st ms cm e.p).ms::Ma.mapF mm (eE c now a st ms cm e.p).ms.m::shC p_hb p_hm c.cells::cz p_hm (eE c now a st ms cm e.p).cm::cellsA u [PA cb 0,PA y 0,aC (eE c now a st ms cm e.p).st.last] 173::ckA cb st.ck::F)->
   K (.tuple #[.agg #[aC (eE c now a st ms cm e.p).reason,aC (eE c now a st ms cm e.p).win],jT (eE c now a st ms cm e.p).gap]) O) :
  CF 155 #[PA sb 0,aC a,PA u 0,aggV e] H K:=by
 refine cM 155 8182367178792412 ?_;unfold eE at k;have i:e.p.stamp=e.stamp:=rfl;have B:e.p.value=e.value:=rfl;have j:e.p.name=e.name:=rfl;have s:e.p.labs=e.labs:=rfl;rw[i,B,j,s]at k;refine h.al λb _ h=>?_
 refine h.al λb1 _ h=>?_
 refine h.al λb2 _ h=>?_
 refine⟨_,h.r 2,_,h.r 8,λd=>?_,λd=>?_⟩
 .have d:=Vw d;simp only[Vt d]at k;refine h.st 1 rfl rfl ?_;intro V h;refine h.st 0 rfl rfl ?_;intro Y h;exact⟨_,_,h.q 1,_,_,h.q 0,k _ h.tl.tl.tl⟩
 have d:=Vx d;simp only[Vs d]at k;refine⟨_,h.r 2,?_⟩;refine h.st 8 rfl rfl ?_;intro V h;refine⟨_,h.r 2,?_⟩;have h:=h.o [3,4,5,8,9,0,1,2,6,7] 10;refine Kf (a:=a) (stamp:=e.stamp) I Z n h λY h=>⟨_,_,_,rfl,?_⟩
 generalize cQ st.ck (bG ms a) now e.stamp=T at *;refine h.al λb3 _ h=>?_
 refine h.st 0 rfl rfl ?_;intro H4 h;refine⟨_,h.rd 4 rfl 0,_,ue (h.o [5] 6),λd=>?_,λd=>?_⟩
 .have d:T.2≠0\/st.ck.held=true:=by
   simp only[VE,VP,V0]at d
   rcases d with d|d
   .exact .inr d
   .exact .inl d
  simp only[Vt d]at k;refine h.st 7 rfl rfl ?_;intro U h;refine h.st 6 rfl rfl ?_;intro L h;exact⟨_,_,h.q 7,_,_,h.q 6,k _ (h.o [1,2,3,9,10,4,5] 11)⟩
 have d:¬(T.2≠0\/st.ck.held=true):=by
  simp only[VB,Wd,Vy]at d;rintro (E|E)
  .exact E d.2
  .rw [d.1]at E;cases E
 simp only[Vs d]at k;refine⟨_,(h.r 1).trans n,_,h.r 0,?_⟩;have h:=h.o [2,3,0,1,4,5,6,7,8,9,10] 11;refine Ma.Raise_spec (a:=a) (t:=T.1.lo) h λU h=>⟨_,rfl,?_⟩
 generalize (ms.raise a T.1.lo).1=M at *;refine⟨_,h.r 2,_,(h.r 3).trans n,_,Ma.Value_spec h 0 rfl,λd=>?_,λd=>?_⟩
 .have d:=Vw d;simp only[Vt d]at k;refine⟨_,_,h.q 2,?_⟩;refine h.st 7 rfl rfl ?_;intro L h;refine⟨h.q 2,?_⟩;refine h.st 6 rfl rfl ?_;intro R h;exact⟨_,_,h.q 7,_,_,h.q 6,k _ (h.o [3,0,1,9,10,4,5] 11)⟩
 have d:=Vx d;simp only[Vs d]at k;refine⟨_,_,_,_,h.q 8,?_⟩;refine RY h (λH h=>ha H (h.o [] 11)) λL h=>⟨_,rfl,?_⟩
 generalize gh e.name e.labs=ser at *;refine⟨_,_,_,h.rds 3 rfl A,_,_,h.q 2,?_⟩;refine Is (g:=c.gd) (x:=T.1) h λR h=>⟨_,_,_,rfl,?_⟩
 have f:=wf_meets c.gd T.1;generalize dM c.gd T.1=W at *;refine⟨_,(h.r 3).trans D,?_⟩;have h:=h.o [9,10,0,1,2,3,4,5,6,7,8] 11;refine R5 ok f.1 f.2 h λH8 h=>⟨_,rfl,?_⟩
 have G:dZ c.cells (jY c.cells cm W.1 W.2.1 ser).1:=xp ok f.1 f.2;generalize jY c.cells cm W.1 W.2.1 ser=N at *;refine⟨λd=>?_,λd=>?_⟩
 .have d:N.2≠0:=by simpa using d
  simp only[Vt d]at k;refine⟨_,_,h.q 4,?_⟩;refine h.st 9 rfl rfl ?_;intro Q h;refine⟨h.q 4,?_⟩;refine h.st 8 rfl rfl ?_;intro w h;exact⟨_,_,h.q 9,_,_,h.q 8,k _ (h.o [5,2,3,0,1,6,7] 11)⟩
 have d:¬N.2≠0:=by simpa using d
 simp only[Vs d]at k;refine⟨_,_,_,h.rds 5 rfl A,_,_,h.q 4,?_⟩;refine QY (g:=c.gd) (x:=T.1) h λQ h=>⟨_,_,rfl,?_⟩
 generalize mF c.gd T.1=P at *;refine⟨λd=>?_,λd=>?_⟩
 .have d:P.2≠0:=by simpa using d
  simp only[Vt d]at k;refine⟨_,_,h.q 4,?_⟩;refine h.st 9 rfl rfl ?_;intro w h;refine⟨h.q 4,?_⟩;refine h.st 8 rfl rfl ?_;intro v h;exact⟨_,_,h.q 9,_,_,h.q 8,k _ (h.o [5,2,3,0,1,6,7] 11)⟩
 have d:¬P.2≠0:=by simpa using d
 simp only[Vs d]at k;refine⟨_,(h.r 5).trans D,_,h.r 10,?_⟩;refine R2 G (key:=⟨P.1,ser⟩) S h λw h=>⟨_,rfl,?_⟩
 generalize mH N.1 ⟨P.1,ser⟩ e.value=C at *;refine⟨λd=>?_,λd=>?_⟩
 .have d:C.2≠0:=by simpa using d
  simp only[Vt d]at k;refine⟨_,_,h.q 4,?_⟩;refine h.st 9 rfl rfl ?_;intro v h;refine⟨h.q 4,?_⟩;refine h.st 8 rfl rfl ?_;intro J h;exact⟨_,_,h.q 9,_,_,h.q 8,k _ (h.o [5,2,3,0,1,6,7] 11)⟩
 .have d:¬C.2≠0:=by simpa using d
  simp only[Vs d]at k;refine⟨_,_,h.q 4,?_⟩;refine h.st 9 rfl rfl ?_;intro v h;refine⟨h.q 4,?_⟩;refine h.st 8 rfl rfl ?_;intro J h;exact⟨_,_,h.q 9,_,_,h.q 8,k _ (h.o [5,2,3,0,1,6,7] 11)⟩
end
structure bI where
 kind:Int:=0
 agent:Int:=0
 epoch:Int:=0
 boot:Int:=0
 next:Int:=0
 number:Int:=0
 ida:Int:=0
 ide:Int:=0
 seq:Int:=0
 reason:Int:=0
 win:Int:=0
 gap:Gp:=Gp.z
 out:Ot:=(⟨0,⟨#[]⟩⟩,Cl.z)
abbrev dP(e:bI):Os:=[aB e.kind,aB e.agent,aB e.epoch,aB e.boot,aB e.next,aB e.number,aB e.ida,aB e.ide,aB e.seq,aB e.reason,aB e.win,aB e.gap.lo,aB e.gap.hi,
 aB e.out.1.win,.string e.out.1.ser,aB e.out.2.n,aB (cx e.out.2.sum),.int .u64 (wlo e.out.2.sum),aB e.out.2.mn,aB e.out.2.mx,aB e.out.2.cer,aB e.out.2.pos]++bW .i64 e.out.2.h 65 0
theorem Kh(e:bI):(dP e).length=87:=rfl
theorem uy(e:bI):cT (dP e)=true:=rfl
structure SAd where
 rb:Nat
 rm:Nat
 mb:Nat
 mm:Nat
 hb:Nat
 hm:Nat
 tm:Nat
 ka:KQ
 kc:Nat
abbrev dr(s:aI)(p:SAd):Os:=[aB s.cfg.width,aB s.cfg.policy,aB s.cfg.most,aB s.cfg.lag,aB s.cfg.rho,aB s.cfg.trust,aB s.cfg.agents,aB s.cfg.cells,aB s.cfg.hold,aB s.now,aB s.boots,aB s.sunk,
 aB s.cfg.width,aB s.cfg.policy,aB s.cfg.most,PA p.rb 0,PA p.mb 0,PA p.hb 0,.map (some p.tm),.slice p.ka s.kept.length p.kc]
structure jC(c:bD):Prop where
 gd:c.gd.ok
 lag:1<=c.lag/\c.lag<=1099511627776
 rate:gA c.rho/\0<=c.trust/\c.trust<=100
 ag:1<=c.agents/\c.agents<=64
 cl:1<=c.cells/\c.cells<=1024
 hd:1<=c.hold/\c.hold<=256
structure lR(c:bD)(s:br):Prop where
 ck:CkOk s.ck
 rho:s.ck.rho=c.rho
 least:s.ck.least=c.trust
 hs:s.hs.Ok
 most:s.hs.most=c.hold
 next:s.hs.next<=1099511627776
 rows:∀p∈s.hs.rows,p.1<1099511627776/\gS p.2=true/\aF p.2.value
 last:-1<=s.last/\s.last<=4611686018427387903
structure cR(s:aI):Prop where
 cfg:jC s.cfg
 now:isT s.now
 boots:0<=s.boots/\s.boots<=1099511627776
 sunk:0<=s.sunk
 rows:fQ s.rows
 ms:MOk s.ms
 lag:s.ms.lag=s.cfg.lag
 sh:dZ s.cfg.cells s.cm
 len:s.sts.length=64
 sts:∀st,some st∈s.sts->lR s.cfg st
 reg:∀k:Nat,(∃st:br,s.sts[k]?=some (some st))↔∃e:En,s.rows[k]?=some e/\0<e.epoch
 kept:∀o∈s.kept,WC o.2
theorem sl39:SlT Tryz.prog 54 305 87 704:=iO (by kernel_rfl)
abbrev stLZZ(Q:aE)(sb:Nat)(s:aI)(p:SAd):List aE:=[cellsA sb (dr s p) 145,Ro.rollC p.rb p.rm s.cfg.agents,Ro.mapE p.rm s.rows,Ma.markC p.mb p.mm s.ms,Ma.mapF p.mm s.ms.m,shC p.hb p.hm s.cfg.cells,cz p.hm s.cm,strmA Q p.tm s.sts,slA 164 74 p.ka s.kept.length p.kc (flat cJ s.kept)]
def stA(Q:aE)(sb:Nat)(s:aI):aE:=exS λp:SAd=>star (stLZZ Q sb s p)
section
variable {F L:List aE}{H:aD}{K KP:KE}{Q Q':aE}
theorem cX{sb:Nat}{s:aI}:aA H (stA Q sb s::F)↔∃p:SAd,aA H (cellsA sb (dr s p) 145::Ro.rollC p.rb p.rm s.cfg.agents::Ro.mapE p.rm s.rows::Ma.markC p.mb p.mm s.ms::Ma.mapF p.mm s.ms.m::shC p.hb p.hm s.cfg.cells::cz p.hm s.cm::strmA Q p.tm s.sts::slA 164 74 p.ka s.kept.length p.kc (flat cJ s.kept)::F):=by
 constructor
 .intro h;obtain⟨p,h⟩:=cK.1 h;exact⟨p,aA.open h⟩
 .rintro⟨p,h⟩;exact cK.2 ⟨p,aA.shut (stLZZ Q sb s p) h⟩
theorem Ki{tm:Nat}{sts:List (Option br)}(hs:aM Q Q')(h:aA H (strmA Q tm sts::F)):aA H (strmA Q' tm sts::F):=by
 obtain⟨bl,a,h⟩:=lf.1 h;have h:=h.o [1,0] 2;have h:=uw hs h;exact lf.2 ⟨bl,a,h.o [1,0] 2⟩
theorem sC{sb:Nat}{s:aI}(hs:aM Q Q')(h:aA H (stA Q sb s::F)):aA H (stA Q' sb s::F):=by
 obtain⟨p,h⟩:=cX.1 h;have h:=h.o [7,0,1,2,3,4,5,6,8] 9;have h:=Ki hs h;exact cX.2 ⟨p,h.o [1,2,3,4,5,6,7,0,8] 9⟩
theorem Tv{a:KQ}{c:Nat}{evs:List Ev}(h:aA H (Q::F))(Z:∀H,aA H (Q::F)->aP H a (flat cw evs))(T:∀e∈evs,io Q e)(V:evs.length<=1000000)(E:∀e∈evs,e.labs.length<=1000000)
  (k:∀Q' M J b C,aM Q Q'->b.map Ev.p=evs.map Ev.p->(∀e∈b,io Q' e)->aA C (Q'::slA 99 4 M b.length J (flat cw b)::F)->K (.slice M b.length J) C) :
  CF 154 #[.slice a evs.length c] H K:=by
 refine OD ?_;refine Sy h Z V λa1 c1 H1 h=>⟨_,_,_,rfl,?_⟩
 refine⟨λi C=>∃(j:Nat) (Q':aE) (b:List Ev),i=j/\j<=evs.length/\aM Q Q'/\b.map Ev.p=evs.map Ev.p/\(∀q (u:q<b.length),q<j->io Q' b[q])/\(∀q (u:q<b.length) (w:q<evs.length),j<=q->b[q]=evs[q])/\
  aA C (Q'::slA 99 4 a1 evs.length c1 (flat cw b)::F),λi _=>evs.length-i.toNat,
  ⟨0,Q,evs,rfl,by omega,aM.refl Q,rfl,λq _ h=>by omega,λ_ _ _ _=>rfl,h.o [1,0] 2⟩,?_⟩
 rintro i H2 ⟨j,Q',b,rfl,hj,n,m,t,f,h⟩;have y:b.length=evs.length:=by have:=congrArg List.length m;simpa using this
 refine⟨λD=>?_,λD=>?_⟩
 .have s:j<evs.length:=by have:=Vw D;omega
  have d:j<b.length:=by omega
  have L:=h.sl_rd 1 rfl;have A:=f j d s (V2 _);refine⟨by omega,_,_,L.some fH (by omega) d,_,_,_,(by
   have:=L.el fH d 3 (v:=.slice b[j].la b[j].labs.length b[j].lc) rfl;rw[show aS a1+((j:Nat):Int).toNat*4+2+1=aS a1+j*4+3 by simp];exact this),?_⟩
  rw[A];refine S1 h (λH h=>((T _ (V7 s)).sub n).at h 0 rfl) (E _ (V7 s)) λO a2 c2 H3 B G h=>⟨_,_,_,rfl,by omega,?_⟩
  obtain⟨P,N,I⟩:=h.sl_set 1 rfl (j*4+3) [.slice a2 evs[j].labs.length c2] (by rw[fh fH];simp;omega) (by simp);refine⟨_,_,P,by rw[show aS a1+((j:Nat):Int).toNat*4+2+1=aS a1+(j*4+3) by simp[Wk]];exact N,?_⟩;intro H4 S;rw[aK (x:=(j:Int)+1)];have e:=yD fH (⟨evs[j].stamp,evs[j].value,evs[j].name,evs[j].labs,a2,c2⟩:Ev) [.slice a2 evs[j].labs.length c2] 3 (xs:=b) (k:=j) d (by simp) (by rw[A];rfl);rw[e]at I;refine⟨⟨j+1,O,b.set j ⟨evs[j].stamp,evs[j].value,evs[j].name,evs[j].labs,a2,c2⟩,by omega,s,n.trans B,?_,λq u U=>?_,λq u w Y=>?_,?_⟩,by dsimp only;omega⟩
  .rw [Ye,m];apply Wx
   .simp
   .intro q h5 h6;rw[List.getElem_set]
    split
    .rename_i e5;subst e5;simp[Ev.p]
    .rfl
  .rw [List.getElem_set]
   split
   .exact G
   .exact (t q (by simpa using u) (by omega)).sub B
  .rw [List.getElem_set,nO];exact f q (by simpa using u) w (by omega)
  .rw [S,show aS a1+((j:Nat):Int).toNat*4+2+1=aS a1+(j*4+3) by simp[Wk]];exact I
 .have R:evs.length<=j:=by have:=Vx D;omega
  rw[<-y]at h ⊢;exact k Q' a1 c1 b _ n m (λe W=>by
   obtain⟨q,u,rfl⟩:=Wn W;exact t q u (by omega)) h
end
def Pv.z:Pv:=⟨0,0,⟨#[]⟩,[]⟩
structure JS where
 st:br
 ms:MS
 cm:CM
def uz(c:bD)(now a ep seq:Int)(x:JS)(e:Pv):JS×bI:=
 (⟨(eE c now a x.st x.ms x.cm e).st,(eE c now a x.st x.ms x.cm e).ms,(eE c now a x.st x.ms x.cm e).cm⟩,
  { kind:=3,ida:=a,ide:=ep,seq:=seq,reason:=(eE c now a x.st x.ms x.cm e).reason,win:=(eE c now a x.st x.ms x.cm e).win,gap:=(eE c now a x.st x.ms x.cm e).gap })
def dh(c:bD)(now a ep first:Int)(evs:List Pv)(x:JS):Nat->JS×List bI
 | 0=>(x,[])
 | n+1=>((uz c now a ep (first+n) (dh c now a ep first evs x n).1 (evs.getD n Pv.z)).1,(dh c now a ep first evs x n).2++[(uz c now a ep (first+n) (dh c now a ep first evs x n).1 (evs.getD n Pv.z)).2])
def kG(s:aI)(r:Rp)(st:br):JS×List bI:=dh s.cfg r.nw r.ag r.ep st.hs.next (st.hs.offer r.nx r.evs).2.1 ⟨{ st with hs:=(st.hs.offer r.nx r.evs).1 },s.ms,s.cm⟩ (st.hs.offer r.nx r.evs).2.1.length
def gD(s:aI)(r:Rp):aI×List bI:=match s.sts[r.ag.toNat]? with
 | some (some st)=>({ s with now:=r.nw,ms:=(kG s r st).1.ms,cm:=(kG s r st).1.cm,sts:=s.sts.set r.ag.toNat (some (kG s r st).1.st) },
   (kG s r st).2++[{ kind:=2,agent:=r.ag,epoch:=r.ep,next:=(st.hs.offer r.nx r.evs).1.next }])
 | _=>(s,[])
theorem xr(c:bD)(now a:Int)(st:br)(ms:MS)(cm:CM)(e:Pv):(eE c now a st ms cm e).st.ck=st.ck/\(eE c now a st ms cm e).st.hs=st.hs/\
  ((eE c now a st ms cm e).st.last=st.last\/(eE c now a st ms cm e).st.last=e.stamp):=by
 unfold eE
 split
 .exact⟨rfl,rfl,.inl rfl⟩
 split
 .exact⟨rfl,rfl,.inr rfl⟩
 split
 .exact⟨rfl,rfl,.inr rfl⟩
 split
 .exact⟨rfl,rfl,.inr rfl⟩
 split <;> exact⟨rfl,rfl,.inr rfl⟩
theorem AV(g:Gd)(t:Int):aF (fO g t):=by
 unfold fO
 split
 .split <;> exact i64in _
 .unfold aF;decide
theorem Kj(g:Gd)(x:Gp):aF (dM g x).1/\aF (dM g x).2.1:=by
 unfold dM
 split
 .split
  .exact⟨AV _ _,AV _ _⟩
  .unfold aF;decide
 .unfold aF;decide
theorem wf_pick(g:Gd)(x:Gp):aF (mF g x).1:=by
 have h:=Kj g x;have z:aF 0:=by unfold aF;decide
 unfold mF
 split
 .exact z
 split
 .exact z
 split
 .exact h.1
 split
 .exact h.2
 split
 .exact AV _ _
 split
 .exact z
 .exact h.1
theorem Tw{c:bD}{now a:Int}{st:br}{ms:MS}{cm:CM}{e:Pv}(h:dZ c.cells cm)(d:aF e.value):dZ c.cells (eE c now a st ms cm e).cm:=by
 have b:=Kj c.gd (cQ st.ck (bG ms a) now e.stamp).1;have f:=wf_pick c.gd (cQ st.ck (bG ms a) now e.stamp).1;unfold eE
 split
 .exact h
 split
 .exact h
 split
 .exact h
 split
 .exact xp h b.1 b.2
 split
 .exact xp h b.1 b.2
 .exact Ts (xp h b.1 b.2) d f
theorem AW{c:bD}{now a ep first:Int}{evs:List Pv}{x:JS}(h:dZ c.cells x.cm)(d:∀e∈evs,aF e.value):∀n,n<=evs.length->
  dZ c.cells (dh c now a ep first evs x n).1.cm/\(dh c now a ep first evs x n).1.st.ck=x.st.ck/\(dh c now a ep first evs x n).1.st.hs=x.st.hs/\(dh c now a ep first evs x n).2.length=n
 | 0,_=>⟨h,rfl,rfl,rfl⟩
 | n+1,hn=>by
  have b:=AW (now:=now) (a:=a) (ep:=ep) (first:=first) h d n (by omega);have f:=xr c now a (dh c now a ep first evs x n).1.st (dh c now a ep first evs x n).1.ms (dh c now a ep first evs x n).1.cm (evs.getD n Pv.z);refine⟨Tw b.1 ?_,f.1.trans b.2.1,f.2.1.trans b.2.2.1,?_⟩
  .rw [ov _ (by omega)];exact d _ (V7 _)
  .show (_++[_]).length=_;rw[Vv,b.2.2.2];rfl
structure oA(Q:aE)(F:List aE)(r:Rp)(a:KQ)(evs:List Ev):Prop where
 eq:r.evs=evs.map Ev.p
 rd:∀H,aA H F->aP H a (flat cw evs)
 labs:∀e∈evs,io Q e
 len:evs.length<=1000000
 vals:∀e∈r.evs,aF e.value
section
variable {F L:List aE}{H:aD}{K KP:KE}{Q Q':aE}
theorem evOk_len{e:Pv}(h:gS e=true):e.labs.length<=8:=by
 unfold gS at h;rw[Vz]at h
 conv=>whnf
 exact (mI h.2).len
theorem Tx{sb:Nat}{s:aI}{r:Rp}{a:KQ}{c:Nat}{evs:List Ev}{st:br}(ok:cR s)(r8:0<=r.ag)(D:s.sts[r.ag.toNat]?=some (some st))(I:oA Q F r a evs)(j2:∀e∈r.evs,gS e=true)
  (l5:evs.length<=64) (h:aA H (Q::stA Q sb s::F))
  (k:∀Q' a' c' H',aM Q Q'->aA H' (Q'::slA 305 87 a' (gD s r).2.length c' (flat dP (gD s r).2)::stA Q' sb (gD s r).1::F)->K (.slice a' (gD s r).2.length c') H') :
  CF 70 #[PA sb 0,.agg ⟨dg r a c⟩] H K:=by
 have M:((r.ag.toNat:Nat):Int)=r.ag:=by omega
 have f:=ok.sts st (VY D);have h5:r.evs.length=evs.length:=by rw[I.eq,V8]
 unfold gD at k;rw[D]at k;dsimp only at k;refine ON ?_;refine h.al λb _ h=>⟨_,h.r 0,?_⟩
 have h:=h.o [2,1,0] 3;obtain⟨p,h⟩:=cX.1 h;refine h.st 0 rfl rfl ?_;intro H1 h;have h:=h.o [7,0,1,2,3,4,5,6,8,9,10] 11;obtain⟨Y,bl,A,h⟩:=qK h D;have h:=h.o [1,0,2,3,4,5,6,7,8,9,10,11,12] 13;obtain⟨cb,hb,h⟩:=gV.1 h;have B:=qL A h 3 rfl;rw[M]at B;refine⟨_,h.r 5,_,h.r 14,_,B,cZ ⟨_,h.r 0,_,uo (h.o [2] 3),cZ ⟨_,h.r 0,_,h.r 14,_,_,_,h.r 14,?_⟩⟩⟩;have h:=h.o [13,0,1,2,3,4,5,6,7,8,9,10,11,12,14] 15;rw[h5];refine Tv h (λH h=>I.rd H (h.o [] 15)) I.labs (by omega) (λe Z=>?_) λE a1 c1 v H2 C W h6 h=>⟨_,_,_,rfl,h.r 15,h.r 2,?_⟩
 .have:=evOk_len (j2 e.p (by rw[I.eq];exact V3.2 ⟨e,Z,rfl⟩));show e.p.labs.length<=1000000;omega
 have l0:v.length=evs.length:=by have:=congrArg List.length W;simpa using this
 have h:=h.o [4,0,1,2,3,5,6,7,8,9,10,11,12,13,14,15] 16;have h:=A0 C h;have N:v.map Ev.p=r.evs:=by rw[W,I.eq]
 refine Jy (items:=v) h f.hs (by have:=f.next;omega) (λH h=>h.sl_rd 1 rfl) h6 (by omega) λa2 c2 ready H3 t S h=>⟨_,_,_,_,rfl,?_⟩
 rw[N]at t h;have U:(st.hs.offer r.nx r.evs).2.1.length=ready.length:=by rw[<-t,V8]
 unfold kG at k;rw[U]at k;generalize hO:st.hs.offer r.nx r.evs=O at *;have hv:∀e∈O.2.1,aF e.value:=by
  intro e Z;rw[<-hO]at Z
  rcases (un (s:=st.hs) (first:=r.nx) (items:=r.evs)).1 e Z with h|⟨q,h,rfl⟩
  .exact I.vals e h
  .exact (f.rows q h).2.2
 have r0:ready.length<=1000000:=by
  have h1:=Jx (s:=st.hs) (first:=r.nx) (items:=r.evs);rw[hO,U]at h1;have h2:=f.hs.rows.length;have h3:=f.hs.most2;omega
 have T:=λn hn=>AW (c:=s.cfg) (now:=r.nw) (a:=r.ag) (ep:=r.ep) (first:=st.hs.next) (evs:=O.2.1) (x:=⟨{ st with hs:=O.1 },s.ms,s.cm⟩) ok.sh hv n hn
 generalize hG:dh s.cfg r.nw r.ag r.ep st.hs.next O.2.1 ⟨{ st with hs:=O.1 },s.ms,s.cm⟩=G at *;refine⟨λla d lc i H'=>∃j:Nat,i=j/\j<=ready.length/\d=j/\
  aA H' (cellsA sb (dr { s with now:=r.nw } p) 145::Ma.markC p.mb p.mm (G j).1.ms::Ma.mapF p.mm (G j).1.ms.m::shC p.hb p.hm s.cfg.cells::cz p.hm (G j).1.cm::cellsA Y [PA cb 0,PA hb 0,aC (G j).1.st.last] 173::ckA cb st.ck::
   slA 305 87 la j lc (flat dP (G j).2)::slA 99 4 a2 ready.length c2 (flat cw ready)::hldA E hb O.1::E::mapA aC ptV p.tm (cW 0 bl)::lQ Q bl s.sts r.ag.toNat::Ro.rollC p.rb p.rm s.cfg.agents::Ro.mapE p.rm s.rows::slA 164 74 p.ka s.kept.length p.kc (flat cJ s.kept)::cellsA b (dg r a c) 61::F),
  λ_ _ _ i _=>ready.length-i.toNat,⟨0,rfl,by omega,rfl,?_⟩,?_⟩
 .have h0:G 0=(⟨{ st with hs:=O.1 },s.ms,s.cm⟩,[]):=by rw[<-hG];rfl
  rw[h0];exact (h.sl_nil 305 87).o [9,12,13,14,15,5,6,0,1,2,3,7,8,10,11,16,17] 18
 rintro la d lc i H4 ⟨j,rfl,hj,rfl,h⟩;obtain⟨h4,y,h9,L⟩:=T d (by omega);refine⟨λhc=>?_,λhc=>?_⟩
 .have u:d<ready.length:=by have:=Vw hc;omega
  have R:=h.sl_rd 8 rfl;refine⟨by omega,_,_,R.some fH (by omega) u,_,_,_,_,_,_,R.els fH u,?_⟩;refine h.al λb2 _ h=>?_
  refine h.st 0 rfl rfl ?_;intro H5 h;refine⟨_,h.r 17,_,_,_,_,_,_,h.q 0,?_⟩;have h:=h.o [1,2,3,4,5,6,7,0,8,9,10,11,12,13,14,15,16,17] 18;have j1:O.2.1.getD d Pv.z=ready[d].p:=by
   rw[ov _ (by omega)];simp only[<-t,Wp]
  have h8:aF ready[d].value:=by
   have:=hv ready[d].p (by rw[<-t];exact V3.2 ⟨_,V7 u,rfl⟩);exact this
  have V:(G d).1.st.ck.smps.length<=8:=by rw[y];exact f.ck.len
  rw[<-show (G d).1.st.ck=st.ck from y]at h;refine Tu (c:=s.cfg) (now:=r.nw) (a:=r.ag) (st:=(G d).1.st) (e:=ready[d]) (mm:=p.mm) (p_mb:=p.mb) (p_hb:=p.hb) (p_hm:=p.hm) V h4 h8 rfl rfl rfl rfl (λH h=>(S _ (V7 u)).at h 4 rfl) h λH6 h=>⟨_,_,_,_,rfl,?_⟩
  rw[show (G d).1.st.ck=st.ck from y]at h;have P:G (d+1)=((uz s.cfg r.nw r.ag r.ep (st.hs.next+d) (G d).1 ready[d].p).1,(G d).2++[(uz s.cfg r.nw r.ag r.ep (st.hs.next+d) (G d).1 ready[d].p).2]):=by
   rw[<-j1,<-hG];rfl
  unfold uz at P;generalize eE s.cfg r.nw r.ag (G d).1.st (G d).1.ms (G d).1.cm ready[d].p=J at *;refine h.al λb3 _ h=>?_
  refine h.al λb4 _ h=>?_
  refine h.st 1 rfl rfl ?_;intro H7 h;refine h.st 0 rfl rfl ?_;intro H8 h;refine⟨_,h.r 19,_,h.r 19,?_⟩;refine h.al λb5 _ h=>?_
  refine h.st 0 rfl rfl ?_;intro H9 h;refine⟨_,_,_,h.q 0,_,_,h.q 2,_,_,h.q 1,?_⟩;refine h.al λb6 _ h=>?_
  have l6:=f.next;have j3:=f.hs.next0;have hw:i64.wrap (st.hs.next+(d:Int))=st.hs.next+d:=aK;rw[hw]at h;refine h.append (m:=1) (ws:=dP { kind:=3,ida:=r.ag,ide:=r.ep,seq:=st.hs.next+d,reason:=J.reason,win:=J.win,gap:=J.gap }) sl39 12 rfl (h.ce_rd 0 rfl) rfl (uy _) (by omega) (by omega) λa5 c5 w h=>⟨_,_,_,rfl,?_⟩
  rw[aK (x:=(d:Int)+1)];refine⟨⟨d+1,by omega,u,rfl,?_⟩,by dsimp only;omega⟩;rw[P];have e:flat dP ((G d).2++[{ kind:=3,ida:=r.ag,ide:=r.ep,seq:=st.hs.next+d,reason:=J.reason,win:=J.win,gap:=J.gap }])=flat dP (G d).2++dP { kind:=3,ida:=r.ag,ide:=r.ep,seq:=st.hs.next+d,reason:=J.reason,win:=J.win,gap:=J.gap }:=by
   rw[dS];simp[flat]
  dsimp only;rw[e];exact h.o [4,5,6,7,8,9,10,12,13,14,15,16,17,18,19,20,21] 22
 .have h7:d=ready.length:=by have:=Vx hc;omega
  subst h7;refine⟨_,h.r 16,_,h.r 16,cZ ⟨_,h.r 5,_,uo (h.o [9] 10),?_⟩⟩;refine h.al λb7 _ h=>?_
  refine h.append (m:=1) (ws:=dP { kind:=2,agent:=r.ag,epoch:=r.ep,next:=O.1.next }) sl39 8 rfl (h.ce_rd 0 rfl) rfl (uy _) (by omega) (by omega) λa5 c5 w h=>⟨_,_,_,rfl,?_⟩
  have e:flat dP ((G ready.length).2++[{ kind:=2,agent:=r.ag,epoch:=r.ep,next:=O.1.next }])=flat dP (G ready.length).2++dP { kind:=2,agent:=r.ag,epoch:=r.ep,next:=O.1.next }:=by
   rw[dS];simp[flat]
  have hk:=k E a5 c5 w C;rw[Vv,L,e]at hk;refine hk ?_;have h:=h.o [13,6,7,10,12,1,14,15,2,3,4,5,16,11,8] 18;have h:aA w (lQ E bl s.sts r.ag.toNat::_):=uw C h;have h:=h.o [1,2,3,4,0,5,6,7,8,9,10,11,12,13,14] 15;have h:aA w (strA E Y (G ready.length).1.st::_):=gV.2 ⟨cb,hb,by rw[y,h9];exact h⟩;have h:=h.o [1,0,2,3,4,5,6,7,8,9,10,11,12] 13;have h:=sx A h;have h:=h.o [1,2,3,4,5,6,7,0,8,9,10] 11;have h:aA w (stA E sb { s with now:=r.nw,ms:=(G ready.length).1.ms,cm:=(G ready.length).1.cm,sts:=s.sts.set r.ag.toNat (some (G ready.length).1.st) }::_):=cX.2 ⟨p,h⟩;exact h.o [1,2,0] 3
end
def Ot.z:Ot:=(⟨0,⟨#[]⟩⟩,Cl.z)
def dQ(first:Int)(outs:List Ot):Nat->List bI
 | 0=>[]
 | n+1=>dQ first outs n++[{ kind:=4,number:=first+n,out:=outs.getD n Ot.z }]
theorem nV(first:Int)(a:List Ot):∀n,(dQ first a n).length=n
 | 0=>rfl
 | n+1=>by
  show (dQ first a n++[_]).length=_;rw[Vv,nV first a n];rfl
abbrev aI.next(s:aI):Int:=s.sunk+(s.kept.length:Int)
def dt(s:aI)(now:Int):List Ot:=iC s.cm (fO s.cfg.gd (s.ms.tick now).1.value)
def kH(s:aI)(now:Int):aI×List bI:=
 ({ s with now:=now,ms:=(s.ms.tick now).1,cm:=nP s.cm (fO s.cfg.gd (s.ms.tick now).1.value),kept:=s.kept++dt s now },dQ s.next (dt s now) (dt s now).length)
def lS(s:aI)(r:Rp):aI:=match s.sts[r.ag.toNat]? with
 | some (some st)=>if r.nx≠st.hs.next\/r.st<st.last\/st.ck.held=true then { s with now:=r.nw } else
   if (cQ st.ck (bG s.ms r.ag) r.nw r.st).2≠0 then { s with now:=r.nw } else
   { s with now:=r.nw,ms:=(s.ms.raise r.ag (cQ st.ck (bG s.ms r.ag) r.nw r.st).1.lo).1,sts:=s.sts.set r.ag.toNat (some { st with last:=r.st }) }
 | _=>s
section
variable {F L:List aE}{H:aD}{K KP:KE}{Q Q':aE}
theorem Kk{sb:Nat}{s:aI}{p:SAd}(h:aA H F)(i:Nat)(a:aW i F=cellsA sb (dr s p) 145)(h0:0<=s.sunk)(hs:s.sunk<=4611686018427387903)(b:s.kept.length<=1000000000000) :
  bX Tryz.prog 140 #[PA sb 0] H (aC s.next):=by
 refine cM 140 28 ⟨_,h.rd i a _,_,_,_,h.rd i a _,?_,rfl⟩;rw[aK];rfl
theorem Tick_spec{sb:Nat}{s:aI}{now:Int}(ok:cR s)(hs:s.sunk<=4611686018427387903)(E:s.kept.length<=100000000000)(h:aA H (stA Q sb s::F))
  (k:∀B y f,aA f (slA 305 87 B (kH s now).2.length y (flat dP (kH s now).2)::stA Q sb (kH s now).1::F)->K (.slice B (kH s now).2.length y) f) :
  CF 72 #[PA sb 0,aC now] H K:=by
 obtain⟨p,h⟩:=cX.1 h;refine OL ?_;refine h.st 0 rfl rfl ?_;intro P h;refine⟨_,h.r 0,?_⟩;have h:=h.o [3,4,0,1,2,5,6,7,8] 9;refine Ma.Tick_spec ok.ms h λZ h=>⟨_,rfl,_,h.r 2,_,_,_,h.q 2,_,h.r 2,_,Ma.Value_spec h 0 rfl,?_⟩
 unfold kH dt at k;generalize hM:(s.ms.tick now).1=M at *;refine wF (g:=s.cfg.gd) h λH3 h=>⟨_,rfl,h.r 2,?_⟩
 have I:=ok.sh.len;have D:=ok.sh.m2;generalize fO s.cfg.gd M.value=W at *;have h:=h.o [5,6,0,1,2,3,4,7,8] 9;refine Sa (by omega) h λJ G H4 h=>⟨_,_,_,rfl,?_⟩
 have L:(iC s.cm W).length<=1024:=by
  have U:(iC s.cm W).length<=(bA s.cm).length:=by unfold iC;exact (List.takeWhile_sublist _).length_le
  have S:(bA s.cm).length=s.cm.length:=by unfold bA;rw[V8,ui];simp[aG]
  omega
 generalize hO:iC s.cm W=O at *;generalize nP s.cm W=C at *;refine⟨λla a lc i f=>∃(j:Nat) (ka:KQ) (kc:Nat),i=j/\j<=O.length/\a=j/\
  aA f (slA 305 87 la j lc (flat dP (dQ s.next O j))::slA 164 74 J O.length G (flat cJ O)::cellsA sb (dr { s with now:=now,kept:=s.kept++O.take j } { p with ka:=ka,kc:=kc }) 145::Ro.rollC p.rb p.rm s.cfg.agents::Ro.mapE p.rm s.rows::Ma.markC p.mb p.mm M::Ma.mapF p.mm M.m::shC p.hb p.hm s.cfg.cells::cz p.hm C::strmA Q p.tm s.sts::
   slA 164 74 ka (s.kept++O.take j).length kc (flat cJ (s.kept++O.take j))::F),
  λ_ _ _ i _=>O.length-i.toNat,⟨0,p.ka,p.kc,rfl,by omega,rfl,?_⟩,?_⟩
 .rw [WU,VT];exact (h.sl_nil 305 87).o [0,1,6,7,8,4,5,2,3,9,10] 11
 rintro la a lc i w ⟨j,ka,kc,rfl,R,rfl,h⟩;have c:(O.take a).length=a:=by rw[VM];omega
 refine⟨λu=>?_,λu=>?_⟩
 .have b:a<O.length:=by have:=Vw u;omega
  have d:=h.sl_rd 1 rfl;have e:=d.els iV b;refine⟨by omega,_,_,d.some iV (by omega) b,_,_,_,_,_,_,_,_,_,_,e,?_⟩;refine h.al λb1 _ h=>?_
  refine h.sta 0 rfl rfl λY h=>?_
  have n:=ok.sunk;refine⟨_,Kk (s:=({ s with now:=now,kept:=s.kept++O.take a }:aI)) (p:={ p with ka:=ka,kc:=kc }) h 3 rfl n hs (by show (s.kept++O.take a).length<=_;rw[Vv,c];omega),?_⟩;have t:({ s with now:=now,kept:=s.kept++O.take a }:aI).next=s.next+a:=by
   show s.sunk+((s.kept++O.take a).length:Int)=s.sunk+(s.kept.length:Int)+a;rw[Vv,c];omega
  rw[t];refine⟨_,_,_,_,_,_,_,_,_,_,h.rda 0 rfl,?_⟩;refine h.al λb2 _ h=>?_
  refine h.append (m:=1) (ws:=dP { kind:=4,number:=s.next+a,out:=O[a] }) sl39 2 rfl (h.ce_rd 0 rfl) rfl (uy _) (by omega) (by omega) λa5 c5 T h=>⟨_,_,_,rfl,?_⟩
  refine⟨_,_,_,h.r 4,_,_,_,_,_,_,_,_,_,_,h.rda 1 rfl,?_⟩;refine h.al λb3 _ h=>⟨h.r 5,?_⟩
  refine h.append (m:=1) (ws:=cJ O[a]) sl86 13 rfl (h.ce_rd 0 rfl) rfl (rY _) (by rw[Vv,c];omega) (by rw[Vv,c];omega) λa6 c6 V h=>⟨_,_,_,rfl,?_⟩
  refine h.st 5 rfl rfl ?_;intro N h;rw[aK (x:=(a:Int)+1)];refine⟨⟨a+1,a6,c6,by omega,b,rfl,?_⟩,by dsimp only;omega⟩;have e1:dQ s.next O (a+1)=dQ s.next O a++[{ kind:=4,number:=s.next+a,out:=O[a] }]:=by
   show dQ s.next O a++[({ kind:=4,number:=s.next+a,out:=O.getD a Ot.z }:bI)]=_;rw[ov _ b]
  have e2:flat dP (dQ s.next O (a+1))=flat dP (dQ s.next O a)++dP { kind:=4,number:=s.next+a,out:=O[a] }:=by
   rw[e1,dS];simp[flat]
  have e3:s.kept++O.take (a+1)=(s.kept++O.take a)++[O[a]]:=by rw[Wf b,V5]
  have e4:flat cJ (s.kept++O.take (a+1))=flat cJ (s.kept++O.take a)++cJ O[a]:=by
   rw[e3,dS];simp[flat]
  have e5:(s.kept++O.take (a+1)).length=(s.kept++O.take a).length+1:=by rw[e3,Vv];rfl
  have e6:dr ({ s with now:=now,kept:=s.kept++O.take (a+1) }:aI) { p with ka:=a6,kc:=c6 }=cv (dr ({ s with now:=now,kept:=s.kept++O.take a }:aI) { p with ka:=ka,kc:=kc }) 19 [.slice a6 ((s.kept++O.take a).length+1) c6]:=by
   simp only[dr,e5];rfl
  rw[e2,e4,e5,e6];exact h.o [3,4,5,6,7,8,9,10,11,12,13] 14
 .have v:a=O.length:=by have:=Vx u;omega
  subst v;rw[VW]at h;have A:=k la lc w;rw[nV]at A;refine A ?_;have h:=h.o [2,3,4,5,6,7,8,9,10,0] 11;have h:aA w (stA Q sb { s with now:=now,ms:=M,cm:=C,kept:=s.kept++O }::_):=cX.2 ⟨{ p with ka:=ka,kc:=kc },h⟩;exact h.o [1,0] 2
theorem Ty{sb:Nat}{s:aI}{r:Rp}{a:KQ}{c:Nat}{st:br}(ok:cR s)(C:0<=r.ag)(f:s.sts[r.ag.toNat]?=some (some st))(h:aA H (stA Q sb s::F))
  (k:∀w,aA w (stA Q sb (lS s r)::F)->K (.tuple #[]) w) :
  CF 71 #[PA sb 0,.agg ⟨dg r a c⟩] H K:=by
 have x:((r.ag.toNat:Nat):Int)=r.ag:=by omega
 have y:=ok.sts st (VY f);unfold lS at k;rw[f]at k;dsimp only at k;refine OM ?_;refine h.al λb _ h=>⟨_,h.r 0,?_⟩
 have h:=h.o [1,0] 2;obtain⟨p,h⟩:=cX.1 h;refine h.st 0 rfl rfl ?_;intro D h;have h:=h.o [7,0,1,2,3,4,5,6,8,9] 10;obtain⟨B,bl,n,h⟩:=qK h f;have h:=h.o [1,0,2,3,4,5,6,7,8,9,10,11] 12;obtain⟨cb,hb,h⟩:=gV.1 h;have u:=qL n h 3 rfl;rw[x]at u;have e:∀(ms:MS) (i:br) w,aA w (cellsA B [PA cb 0,PA hb 0,aC i.last] 173::ckA cb i.ck::hldA Q hb i.hs::mapA aC ptV p.tm (cW 0 bl)::lQ Q bl s.sts r.ag.toNat::cellsA sb (dr { s with now:=r.nw } p) 145::Ro.rollC p.rb p.rm s.cfg.agents::Ro.mapE p.rm s.rows::Ma.markC p.mb p.mm ms::Ma.mapF p.mm ms.m::shC p.hb p.hm s.cfg.cells::cz p.hm s.cm::slA 164 74 p.ka s.kept.length p.kc (flat cJ s.kept)::F)->
   aA w (stA Q sb { s with now:=r.nw,ms:=ms,sts:=s.sts.set r.ag.toNat (some i) }::F):=by
  intro ms i w h;have h:=gV.2 ⟨cb,hb,h⟩;have h:=h.o [1,0,2,3,4,5,6,7,8,9,10] 11;have h:=sx n h;exact cX.2 ⟨p,h.o [1,2,3,4,5,6,7,0,8] 9⟩
 have j:s.sts.set r.ag.toNat (some st)=s.sts:=by
  have A:r.ag.toNat<s.sts.length:=(List.getElem?_eq_some_iff.1 f).1;have:s.sts[r.ag.toNat]=some st:=by rw[List.getElem?_eq_getElem A]at f;exact Option.some.inj f
  rw[<-this,WG]
 refine⟨_,h.r 5,_,h.r 13,_,u,_,h.r 13,cZ ⟨_,h.r 0,_,uo (h.o [2] 3),_,λ_=>h.r 13,λ_=>trivial,_,λ_=>h.r 0,λ_=>trivial,_,λ_=>h.rd 0 rfl 0,_,λ_=>ue (h.o [1] 2),λd=>?_,λd=>?_⟩⟩
 .have d:r.nx≠st.hs.next\/r.st<st.last\/st.ck.held=true:=by
   simp only[VE,VP,V0,Vy]at d
   rcases d with (d|d)|d
   .exact .inl d
   .exact .inr (.inl d)
   .exact .inr (.inr d)
  rw[Vt d]at k;have h:=e s.ms st _ (h.o [0,1,2,3,4,5,6,7,8,9,10,11,12] 14);rw[j]at h;exact k _ h
 have d:¬(r.nx≠st.hs.next\/r.st<st.last\/st.ck.held=true):=by
  simp only[VB,Wd,V0,Vy]at d;rintro (v|v|v)
  .exact v d.1.1
  .exact d.1.2 v
  .rw [d.2]at v;cases v
 rw[Vs d]at k;refine⟨_,h.r 13,_,h.r 13,?_⟩;have h:=h.o [5,8,9,0,1,2,3,4,6,7,10,11,12,13] 14;refine Kf (a:=r.ag) (stamp:=r.st) (now:=r.nw) y.ck.len rfl rfl h λJ h=>⟨_,_,_,rfl,?_⟩
 generalize cQ st.ck (bG s.ms r.ag) r.nw r.st=T at *;refine h.al λb1 _ h=>?_
 refine h.st 0 rfl rfl ?_;intro I h;refine⟨λd=>?_,λd=>?_⟩
 .rw [Vt (by simpa using d)]at k;have h:=e s.ms st _ (h.o [4,5,6,7,8,1,9,10,2,3,11,12,13] 15);rw[j]at h;exact k _ h
 .rw [Vs (by simpa using d)]at k;refine⟨_,h.r 14,cZ ?_⟩;refine h.st 4 rfl rfl ?_;intro E h;refine⟨_,h.r 1,_,h.r 14,_,h.r 0,?_⟩;have h:=h.o [2,3,0,1,4,5,6,7,8,9,10,11,12,13,14] 15;refine Ma.Raise_spec (a:=r.ag) (t:=T.1.lo) h λG h=>⟨_,rfl,?_⟩
  exact k _ (e _ { st with last:=r.st } _ (h.o [4,5,6,7,8,3,9,10,0,1,11,12,13] 15))
end
def isE(s:aI)(a ep:Int):Bool:=decide (0<(bg s.rows a).epoch)&&decide ((bg s.rows a).epoch=ep)
def dL(s:aI)(a:Int):Option br:=if a<0 then none else (s.sts[a.toNat]?).join
def sD(s:aI)(r:Rp)(now:Int):Int:=
 if 0<r.ep/\isE s r.ag r.ep=false then 22 else
 if now<s.now then 11 else
 if r.kind=4 then (match dL s r.ag with
  | some st=>if st.ck.smps.length=0/\st.ck.held=false then 19 else 0
  | none=>0) else 0
def fB(s:aI)(r:Rp):Int:=
 if r.kind=1 then (if 1099511627776<=s.boots then 17 else 0) else
 if r.kind=7 then (if s.next<r.nx then 11 else 0) else
 sD s r (if r.kind=3 then r.sm.came else r.nw)
structure RLim(r:Rp):Prop where
 kind:1<=r.kind/\r.kind<=7
 ag:0<=r.ag/\r.ag<=63
 ep:(r.kind=3\/r.kind=4\/r.kind=5->1<=r.ep)/\0<=r.ep/\r.ep<=1099511627776
 bt:(r.kind=2->1<=r.bt)/\0<=r.bt/\r.bt<=1099511627776
 nx:0<=r.nx/\r.nx<=1099511627776
 st:0<=r.st/\r.st<=4611686018427387903
 nw:isT r.nw
 sm:r.sm.ok
 evs:r.kind=4->gT r.nx r.evs=true
 none:r.kind≠4->r.evs=[]
theorem iF{r:Rp}(h:r.right=true):RLim r:=by
 unfold Rp.right at h;rw[Vz,Vz,Vz]at h;obtain⟨⟨⟨j,s⟩,b⟩,f⟩:=h;unfold Rp.lim at f;simp only[inM,Vz,Vy]at j f;obtain⟨⟨⟨⟨⟨⟨k,d⟩,c⟩,n⟩,m⟩,e⟩,i⟩:=f;refine⟨j,k,⟨λa=>?_,?_,d.2⟩,⟨λa=>?_,?_,c.2⟩,n,m,e,i,λa=>?_,λa=>?_⟩
 .rw [Vt a]at d;exact d.1
 .have:=d.1;split at this <;> omega
 .rw [Vt a]at c;exact c.1
 .have:=c.1;split at this <;> omega
 .rw [Vt a]at b;exact b
 .rw [Vs a]at b;exact W6.1 (Vw b)
theorem rowE_at{rows:List En}{a:Int}(h:0<(bg rows a).epoch):0<=a/\∃e,rows[a.toNat]?=some e/\0<e.epoch:=by
 unfold bg at h
 split at h
 .simp [En.z]at h
 .refine⟨by omega,?_⟩
  cases e:rows[a.toNat]? with
  | none=>rw[e]at h;simp[En.z]at h
  | some x=>rw[e]at h;exact⟨x,rfl,h⟩
theorem cR.str{s:aI}(ok:cR s){a:Int}(h:0<(bg s.rows a).epoch):0<=a/\∃st,s.sts[a.toNat]?=some (some st):=by
 obtain⟨h0,e,b,c⟩:=rowE_at h;exact⟨h0,(ok.reg a.toNat).2 ⟨e,b,c⟩⟩
theorem xt{s:aI}{a:Int}{st:br}(h0:0<=a)(h:s.sts[a.toNat]?=some (some st)):dL s a=some st:=by
 unfold dL;rw[nO,h];rfl
section
variable {F L:List aE}{H:aD}{K KP:KE}{Q Q':aE}
theorem Tz{sb:Nat}{s:aI}{r:Rp}{a:KQ}{c:Nat}(ok:cR s)(hs:s.sunk<=4611686018427387903)(S:s.kept.length<=100000000000)(V:r.right=true)(h:aA H (stA Q sb s::F))
  (k:∀i,aA i (stA Q sb s::F)->K (aC (fB s r)) i) :
  CF 65 #[PA sb 0,.agg ⟨dg r a c⟩] H K:=by
 refine cN 65 0x1121513dc13dc17492283c9d2171b9c [[],[(44,sB)],[(5,sI)]] ?_;refine h.al λb H0 h=>⟨_,h.r 0,?_⟩
 have h:=h.o [1,0] 2;obtain⟨p,h⟩:=cX.1 h;have fin:∀i,aA i (cellsA sb (dr s p) 145::Ro.rollC p.rb p.rm s.cfg.agents::Ro.mapE p.rm s.rows::Ma.markC p.mb p.mm s.ms::Ma.mapF p.mm s.ms.m::shC p.hb p.hm s.cfg.cells::cz p.hm s.cm::strmA Q p.tm s.sts::slA 164 74 p.ka s.kept.length p.kc (flat cJ s.kept)::cellsA b (dg r a c) 61::F)->aA i (stA Q sb s::F):=λi h=>by
  have h:=cX.2 ⟨p,h⟩;exact h.o [0] 2
 unfold fB at k;refine⟨_,h.r 9,λI=>?_,λI=>⟨λv=>?_,λv=>?_⟩⟩
 .rw [Vt (Vw I)]at k;refine⟨_,h.r 0,λhb=>?_,λhb=>?_⟩
  .rw [Vt (Vw hb)]at k;exact k _ (fin _ h)
  .rw [Vs (Vx hb)]at k;exact k _ (fin _ h)
 .rw [Vs (Vx I),Vt (Vw v)]at k;refine⟨_,h.r 9,_,Kk h 0 rfl ok.sunk hs (by omega),λhb=>?_,λhb=>?_⟩
  .rw [Vt (Vw hb)]at k;exact k _ (fin _ h)
  .rw [Vs (Vx hb)]at k;exact k _ (fin _ h)
 rw[Vs (Vx I),Vs (Vx v)]at k;have T:=iF V;intro Jn Y;have u:∀now,(∀i,aA i (stA Q sb s::F)->K (aC (sD s r now)) i)->Jn now H0:=by
  intro now k;refine Y _ _ ?_;intro M J;unfold sD at k;have E:∀(t:Bool) i,t=decide (0<r.ep/\isE s r.ag r.ep=false)->aA i (cellsA sb (dr s p) 145::Ro.rollC p.rb p.rm s.cfg.agents::Ro.mapE p.rm s.rows::Ma.markC p.mb p.mm s.ms::Ma.mapF p.mm s.ms.m::shC p.hb p.hm s.cfg.cells::cz p.hm s.cm::strmA Q p.tm s.sts::slA 164 74 p.ka s.kept.length p.kc (flat cJ s.kept)::cellsA b (dg r a c) 61::F)->M t i:=by
   rintro t i rfl h;refine J _ _ ?_;refine⟨λB=>?_,λB=>?_⟩
   .rw [Vt (Vw B)]at k;exact k _ (fin _ h)
   have B:=Vx B;rw[Vs B]at k;refine⟨_,h.r 0,λO=>?_,λO=>?_⟩
   .rw [Vt (Vw O)]at k;exact k _ (fin _ h)
   rw[Vs (Vx O)]at k;refine⟨_,h.r 9,?_⟩;intro W G;refine⟨λA=>?_,λA=>?_⟩
   .have A:=Vw A;rw[Vt A]at k;have Z:=T.ep.1 (.inr (.inl A));have w:isE s r.ag r.ep=true:=by
     cases e:isE s r.ag r.ep
     .exact Vu ⟨by omega,e⟩ B
     .rfl
    unfold isE at w;rw[Vz]at w;obtain⟨P,st,f⟩:=ok.str (Vw w.1);rw[xt P f]at k;dsimp only at k;have C:=ok.sts st (VY f);have D:((r.ag.toNat:Nat):Int)=r.ag:=by omega
    have h:=h.o [7,0,1,2,3,4,5,6,8,9] 10;obtain⟨h0,bl,j,h⟩:=qK h f;have h:=h.o [1,0,2,3,4,5,6,7,8,9,10,11] 12;obtain⟨cb,hb,h⟩:=gV.1 h;have n:=qL j h 3 rfl;rw[D]at n;have y:s.sts.set r.ag.toNat (some st)=s.sts:=by
     have N:r.ag.toNat<s.sts.length:=(List.getElem?_eq_some_iff.1 f).1;have:s.sts[r.ag.toNat]=some st:=by rw[List.getElem?_eq_getElem N]at f;exact Option.some.inj f
     rw[<-this,WG]
    conv=>whnf
    refine⟨_,h.r 5,_,h.r 13,_,n,⟨_,h.rd 0 rfl 0,?_⟩⟩;have h:=h.o [1,0,2,3,4,5,6,7,8,9,10,11,12,13] 14;have U:=C.ck.len;refine zY h (by omega) λsa sc R h=>⟨_,_,_,rfl,λ_=>trivial,_,λ_=>h.rd 2 rfl 0,_,λ_=>ue (h.o [1] 2),?_⟩
    have back:aA R (cellsA sb (dr s p) 145::Ro.rollC p.rb p.rm s.cfg.agents::Ro.mapE p.rm s.rows::Ma.markC p.mb p.mm s.ms::Ma.mapF p.mm s.ms.m::shC p.hb p.hm s.cfg.cells::cz p.hm s.cm::strmA Q p.tm s.sts::slA 164 74 p.ka s.kept.length p.kc (flat cJ s.kept)::cellsA b (dg r a c) 61::F):=by
     have h:=h.o [2,1,3,4,5,6,7,8,9,10,11,12,13,14] 15;have h:=gV.2 ⟨cb,hb,h⟩;have h:=h.o [1,0,2,3,4,5,6,7,8,9,10,11] 12;have h:=sx j h;rw[y]at h;exact h.o [1,2,3,4,5,6,7,0,8,9] 10
    refine⟨λd=>?_,λd=>?_⟩
    .have d:st.ck.smps.length=0/\st.ck.held=false:=by
      simp only[Vz,Vy,VP]at d;exact⟨by omega,d.2⟩
     rw[Vt d]at k;exact k _ (fin _ back)
    .have d:¬(st.ck.smps.length=0/\st.ck.held=false):=by
      rintro⟨h1,h2⟩;rw[h1,h2]at d;simp at d
     rw[Vs d]at k;refine G _ ?_;exact k _ (fin _ back)
   .rw [Vs (Vx A)]at k;refine G _ ?_;exact k _ (fin _ h)
  refine⟨_,h.r 9,λ_=>trivial,_,λ_=>h.r 0,_,λ_=>h.r 9,_,λ_=>h.r 9,λx=>?_,λx=>?_⟩
  .have x:=Vw x;have h:=h.o [1,2,0,3,4,5,6,7,8,9] 10;refine Ro.Is_spec ok.rows (agent:=r.ag) (epoch:=r.ep) h λR h=>⟨_,rfl,?_⟩
   refine E _ _ ?_ (h.o [2,0,1,3,4,5,6,7,8,9] 10);show (!isE s r.ag r.ep)=_;rw[Wb,Vy]
   constructor
   .intro d;exact⟨x,by simpa using d⟩
   .rintro⟨_,d⟩;rw[d];rfl
  .have x:¬0<r.ep:=λd=>x (VF d)
   refine E _ _ ?_ h
   symm
   exact Wj λd=>x d.1
 refine⟨λL=>?_,λL=>?_⟩
 .rw [Vt (Vw L)]at k;exact⟨_,h.r 9,u _ k⟩
 .rw [Vs (Vx L)]at k;exact u _ k
end
def lT(c:bD):br:=⟨⟨c.rho,c.trust,false,0,[]⟩,⟨0,c.hold,[]⟩,-1⟩
def pB(a ep n:Int):bI:={ kind:=3,ida:=a,ide:=ep,seq:=n,reason:=5 }
def jo(s:aI)(a:Int):List bI:=match dL s a with
 | some st=>(aG st.hs.rows).map (pB a (bg s.rows a).epoch)
 | none=>[]
def gW(s:aI)(a:Int):MS:=match dL s a with
 | some _=>(s.ms.leave a).1
 | none=>s.ms
def fC(s:aI)(r:Rp):aI×List bI×Int:=
 if (grant s.cfg.agents s.rows r.ag r.bt r.nw).2.2.2≠0 then (s,[],(grant s.cfg.agents s.rows r.ag r.bt r.nw).2.2.2) else
 if (grant s.cfg.agents s.rows r.ag r.bt r.nw).2.2.1 then
  ({ s with now:=r.nw,rows:=(grant s.cfg.agents s.rows r.ag r.bt r.nw).1,ms:=((gW s r.ag).join r.ag r.nw).1,sts:=s.sts.set r.ag.toNat (some (lT s.cfg)) },
   jo s r.ag++[{ kind:=1,agent:=r.ag,epoch:=(grant s.cfg.agents s.rows r.ag r.bt r.nw).2.1.epoch,boot:=(grant s.cfg.agents s.rows r.ag r.bt r.nw).2.1.boot }],0)
 else ({ s with now:=r.nw,rows:=(grant s.cfg.agents s.rows r.ag r.bt r.nw).1 },[{ kind:=1,agent:=r.ag,epoch:=(grant s.cfg.agents s.rows r.ag r.bt r.nw).2.1.epoch,boot:=(grant s.cfg.agents s.rows r.ag r.bt r.nw).2.1.boot }],0)
theorem T3{most:Int}{rows:List En}{a b n:Int}(h:(grant most rows a b n).2.2.2≠0):(grant most rows a b n).1=rows:=by
 unfold grant at h ⊢
 split
 .rfl
 .rename_i d;rw[Vs d]at h;dsimp only at h ⊢
  split
  .rfl
  .rename_i i;rw[Vs i]at h
   split
   .rfl
   .rename_i e;rw[Vs e]at h
    split
    .rfl
    .rename_i f;rw[Vs f]at h
     split
     .rfl
     .rename_i c;rw[Vs c]at h;simp at h
section
variable {F L:List aE}{H:aD}{K KP:KE}{Q Q':aE}
theorem Kl{tm k b:Nat}{bl:List (Option Nat)}{sts:List (Option br)}{s:br}(hm:bl.map Option.isSome=sts.map Option.isSome)(d:k<sts.length)
  (h:aA H (mapA aC ptV tm (mset ((k:Nat):Int) (some b) (cW 0 bl))::strA Q b s::lQ Q bl sts k::F)):aA H (strmA Q tm (sts.set k (some s))::F):=by
 have c:bl.length=sts.length:=by have:=congrArg List.length hm;simpa using this
 have e:=pA (Q:=Q) (b:=b) (s:=s) (bl:=bl.set k none) (sts:=sts.set k none) (k:=k) (by rw[List.getElem?_set_self (by omega)]) (by rw[List.getElem?_set_self (by omega)]);rw[Yf,Yf]at e;have a:=xm (b:=b) (l:=bl) (i:=0) (k:=k) (by omega);rw[VL]at a;rw[<-nC (r:=tm) a]at h;refine lf.2 ⟨bl.set k (some b),?_,?_⟩
 .rw [Ye,Ye,hm];rfl
 .rw [<-e];have h:=h.o [1,2,0] 3;have h:=gy.2 h;exact h.o [1,0] 2
theorem Km{sb:Nat}{s:aI}{p:SAd}(ok:jC s.cfg)(h:aA H (cellsA sb (dr s p) 145::F))
  (k:∀b c,aA c (strA Q b (lT s.cfg)::cellsA sb (dr s p) 145::F)->K (PA b 0) c):CF 145 #[PA sb 0] H K:=by
 refine cM 145 4380 ?_;refine⟨_,h.r 0,_,h.r 0,?_⟩;refine Iu h (λa=>Vu ok.rate a) λ_ cb e h=>⟨_,_,rfl,_,h.r 1,?_⟩
 refine A7 (Q:=Q) h (λa=>Vu ok.hd (by omega)) λhb d _ h=>⟨_,_,rfl,?_⟩
 refine h.al λb _ h=>?_
 refine k b _ (gV.2 ⟨cb,hb,?_⟩);exact h.o [0,2,1,3] 4
theorem Grant_spec{sb:Nat}{s:aI}{r:Rp}{a:KQ}{c:Nat}(ok:cR s)(hr:r.right=true)(l6:r.kind=2)(h:aA H (stA Q sb s::F))
  (k:∀L M y,aA y (slA 305 87 L (fC s r).2.1.length M (flat dP (fC s r).2.1)::stA Q sb (fC s r).1::F)->K (.tuple #[.slice L (fC s r).2.1.length M,aC (fC s r).2.2]) y) :
  CF 66 #[PA sb 0,.agg ⟨dg r a c⟩] H K:=by
 have hL:=iF hr;have w:((r.ag.toNat:Nat):Int)=r.ag:=by have:=hL.ag;omega
 refine OP ?_;refine h.al λb H0 h=>?_
 have h:=h.o [1,0] 2;obtain⟨p,h⟩:=cX.1 h;intro Jn hJ;have R:∀bb y,aA y (cellsA bb (encE (bg s.rows r.ag)) 149::cellsA sb (dr s p) 145::Ro.rollC p.rb p.rm s.cfg.agents::Ro.mapE p.rm s.rows::Ma.markC p.mb p.mm s.ms::Ma.mapF p.mm s.ms.m::shC p.hb p.hm s.cfg.cells::cz p.hm s.cm::strmA Q p.tm s.sts::slA 164 74 p.ka s.kept.length p.kc (flat cJ s.kept)::cellsA b (dg r a c) 61::F)->Jn bb 0 y:=by
  intro bb H1 h;refine hJ _ _ _ ?_;intro h9 h7;unfold fC at k;have T:=T3 (most:=s.cfg.agents) (rows:=s.rows) (a:=r.ag) (b:=r.bt) (n:=r.nw);have E:∀Y y,aA y (cellsA Y (encE (grant s.cfg.agents s.rows r.ag r.bt r.nw).2.1) 149::cellsA bb (encE (bg s.rows r.ag)) 149::cellsA sb (dr s p) 145::Ro.rollC p.rb p.rm s.cfg.agents::Ro.mapE p.rm (grant s.cfg.agents s.rows r.ag r.bt r.nw).1::Ma.markC p.mb p.mm s.ms::Ma.mapF p.mm s.ms.m::shC p.hb p.hm s.cfg.cells::cz p.hm s.cm::strmA Q p.tm s.sts::slA 164 74 p.ka s.kept.length p.kc (flat cJ s.kept)::cellsA b (dg r a c) 61::F)->
    h9 Y 0 (grant s.cfg.agents s.rows r.ag r.bt r.nw).2.2.1 (grant s.cfg.agents s.rows r.ag r.bt r.nw).2.2.2 y:=by
   intro Y H2 h;refine h7 _ _ _ _ _ ?_;generalize grant s.cfg.agents s.rows r.ag r.bt r.nw=G at *;refine⟨λO=>?_,λO=>?_⟩
   .have O:G.2.2.2≠0:=by simpa using O
    rw[Vt O]at k;rw[T O]at h;have h:=h.o [2,3,4,5,6,7,8,9,10] 12;have h:=cX.2 ⟨p,h⟩;exact k none 0 _ (h.sl_nil 305 87)
   have O:¬G.2.2.2≠0:=by simpa using O
   rw[Vs O]at k;refine⟨_,h.r 11,?_⟩;refine h.st 2 rfl rfl ?_;intro H3 h;intro h5 j3;have fin:∀(d:List bI) (la:KQ) (lc:Nat) (s':aI) (p':SAd) y,d.length<=1000000->(∀L M A,aA A (slA 305 87 L (d.length+1) M (flat dP (d++[{ kind:=1,agent:=r.ag,epoch:=G.2.1.epoch,boot:=G.2.1.boot }]))::stA Q sb s'::F)->K (.tuple #[.slice L (d.length+1) M,aC 0]) A)->
     aA y (slA 305 87 la d.length lc (flat dP d)::cellsA Y (encE G.2.1) 149::cellsA b (dg r a c) 61::stA Q sb s'::F)->h5 la d.length lc y:=by
    intro d la lc s' p' H4 h4 kk h;refine j3 _ _ _ _ ?_;refine⟨_,h.r 2,_,h.r 1,_,h.r 1,?_⟩;refine h.al λb1 _ h=>?_
    refine h.append (m:=1) (ws:=dP { kind:=1,agent:=r.ag,epoch:=G.2.1.epoch,boot:=G.2.1.boot }) sl39 1 rfl (h.ce_rd 0 rfl) rfl (uy _) (by omega) (by omega) λa5 c5 H5 h=>⟨_,_,_,rfl,?_⟩
    refine kk _ _ _ ?_;rw[dS,show flat dP [({ kind:=1,agent:=r.ag,epoch:=G.2.1.epoch,boot:=G.2.1.boot }:bI)]=dP { kind:=1,agent:=r.ag,epoch:=G.2.1.epoch,boot:=G.2.1.boot } by simp[flat]];exact h.o [1,4] 5
   refine⟨λZ=>?_,λZ=>?_⟩
   .rw [Vt Z]at k;have C:r.ag.toNat<s.sts.length:=by have:=ok.len;have:=hL.ag;omega
    have B:∀(bl:List (Option Nat)) (la:KQ) (lc:Nat) y,bl.map Option.isSome=s.sts.map Option.isSome->(jo s r.ag).length<=1000000->
      aA y (slA 305 87 la (jo s r.ag).length lc (flat dP (jo s r.ag))::mapA aC ptV p.tm (cW 0 bl)::lQ Q bl s.sts r.ag.toNat::Ma.markC p.mb p.mm (gW s r.ag)::Ma.mapF p.mm (gW s r.ag).m::cellsA Y (encE G.2.1) 149::cellsA sb (dr { s with now:=r.nw } p) 145::Ro.rollC p.rb p.rm s.cfg.agents::Ro.mapE p.rm G.1::shC p.hb p.hm s.cfg.cells::cz p.hm s.cm::slA 164 74 p.ka s.kept.length p.kc (flat cJ s.kept)::cellsA b (dg r a c) 61::F)->
      zf.r2 sb 0 b h5 la (jo s r.ag).length lc y:=by
     intro bl la lc H4 hm h4 h;unfold zf.r2;refine⟨_,h.r 6,_,h.r 12,?_⟩;have h:=h.o [6,0,1,2,3,4,5,7,8,9,10,11,12] 13;refine Km (s:=({ s with now:=r.nw }:aI)) (Q:=Q) ok.cfg h λnb H5 h=>⟨_,rfl,h.r 13,h.r 1,?_⟩
     rw[<-w];refine h.mp_update (α:=Option Nat) (v:=some nb) (x:=((r.ag.toNat:Nat):Int)) qI ko2 3 rfl λH6 h=>?_
     rw[w];refine⟨_,h.r 1,_,h.r 13,_,h.r 13,?_⟩;have h:=h.o [5,6,0,1,2,3,4,7,8,9,10,11,12,13] 14;refine Ma.Join_spec (a:=r.ag) (t:=r.nw) h λH7 h=>⟨_,rfl,?_⟩
     refine fin (jo s r.ag) la lc { s with now:=r.nw,rows:=G.1,ms:=((gW s r.ag).join r.ag r.nw).1,sts:=s.sts.set r.ag.toNat (some (lT s.cfg)) } p _ h4 (λL M A h=>?_) ?_
     .have hk:=k L M A;rw[Vv]at hk;exact hk h
     .
      have h:=h.o [5,2,6,0,1,3,4,7,8,9,10,11,12,13] 14;rw[<-w]at h;have h:=Kl hm C h;rw[w]at h;have h:=h.o [3,6,7,1,2,8,9,0,10,4,5,11] 12;have h:aA H7 (stA Q sb { s with now:=r.nw,rows:=G.1,ms:=((gW s r.ag).join r.ag r.nw).1,sts:=s.sts.set r.ag.toNat (some (lT s.cfg)) }::_):=cX.2 ⟨p,h⟩;exact h.o [1,2,3,0] 4
    refine⟨_,h.r 2,_,h.r 11,?_⟩;have W:(∃st,s.sts[r.ag.toNat]?=some (some st))\/s.sts[r.ag.toNat]?=some none:=by
     rw[List.getElem?_eq_getElem C]
     cases s.sts[r.ag.toNat] with
     | none=>exact .inr rfl
     | some st=>exact .inl ⟨st,rfl⟩
    rcases W with ⟨st,u⟩|u
    .have f:=ok.sts st (VY u);have I:=xt hL.ag.1 u;have D:jo s r.ag=(aG st.hs.rows).map (pB r.ag (bg s.rows r.ag).epoch):=by unfold jo;rw[I]
     have U:gW s r.ag=(s.ms.leave r.ag).1:=by unfold gW;rw[I]
     have h:=h.o [9,0,1,2,3,4,5,6,7,8,10,11] 12;obtain⟨r9,bl,N,h⟩:=qK h u;have h:=h.o [1,0,2,3,4,5,6,7,8,9,10,11,12,13] 14;obtain⟨cb,hb,h⟩:=gV.1 h;have P:=qL N h 3 rfl;rw[w]at P;refine⟨_,P,?_⟩;intro j1 V;refine⟨λ_=>cZ ⟨_,h.r 0,?_⟩,λhn=>Vu hn (by simp)⟩
     have h:=h.o [2,0,1,3,4,5,6,7,8,9,10,11,12,13,14,15] 16;have r8:=f.hs.rows.length;have r0:=f.hs.most2;have l0:st.hs.rows.length<=256:=by omega
     refine A8 h f.hs.rows.rising (λq hq=>by
      have h1:=(f.rows q hq).1;have h2:=(f.hs.rows.inb q hq).1;have h3:=f.hs.next0;unfold aF;omega) (by omega) λwa wc H4 h=>⟨_,_,_,rfl,?_⟩
     have h8:(aG st.hs.rows).length=st.hs.rows.length:=by simp[aG]
     refine⟨λla J lc i y=>∃j:Nat,i=j/\j<=st.hs.rows.length/\J=j/\
      aA y (slA 305 87 la j lc (flat dP (((aG st.hs.rows).take j).map (pB r.ag (bg s.rows r.ag).epoch)))::slA 2 1 wa st.hs.rows.length wc ((aG st.hs.rows).map aC)::mapA aC ptV p.tm (cW 0 bl)::lQ Q bl s.sts r.ag.toNat::cellsA Y (encE G.2.1) 149::cellsA bb (encE (bg s.rows r.ag)) 149::cellsA sb (dr { s with now:=r.nw } p) 145::Ro.rollC p.rb p.rm s.cfg.agents::Ro.mapE p.rm G.1::Ma.markC p.mb p.mm s.ms::Ma.mapF p.mm s.ms.m::shC p.hb p.hm s.cfg.cells::cz p.hm s.cm::slA 164 74 p.ka s.kept.length p.kc (flat cJ s.kept)::cellsA b (dg r a c) 61::F),
      λ_ _ _ i _=>st.hs.rows.length-i.toNat,⟨0,rfl,by omega,rfl,(h.sl_nil 305 87).o [0,1,5,6,7,8,9,10,11,12,13,14,15,16,17] 18⟩,?_⟩
     rintro la J lc i H5 ⟨j,rfl,hj,rfl,h⟩;refine⟨λhc=>?_,λhc=>?_⟩
     .have C:J<st.hs.rows.length:=by have:=Vw hc;omega
      have S:J<(aG st.hs.rows).length:=by omega
      have h0:=(h.sl_rd 1 rfl).at S;refine⟨by omega,_,_,h0.1,_,h0.2,_,h.r 14,_,h.r 5,?_⟩;refine h.al λb3 _ h=>?_
      refine h.append (m:=1) (ws:=dP (pB r.ag (bg s.rows r.ag).epoch (aG st.hs.rows)[J])) sl39 1 rfl (h.ce_rd 0 rfl) rfl (uy _) (by omega) (by omega) λa5 c5 H7 h=>⟨_,_,_,rfl,?_⟩
      rw[aK (x:=(J:Int)+1)];refine⟨⟨J+1,by omega,C,rfl,?_⟩,by dsimp only;omega⟩;rw[Wf S,VJ,dS,show flat dP ([(aG st.hs.rows)[J]].map (pB r.ag (bg s.rows r.ag).epoch))=dP (pB r.ag (bg s.rows r.ag).epoch (aG st.hs.rows)[J]) by simp[flat]];exact h.o [1,2,3,4,5,6,7,8,9,10,11,12,13,14,15] 16
     .have j2:J=st.hs.rows.length:=by have:=Vx hc;omega
      subst j2;rw[VR (by omega),<-D]at h;have h6:(jo s r.ag).length=st.hs.rows.length:=by rw[D,V8,h8]
      refine⟨_,h.r 6,_,h.r 14,?_⟩;have h:=h.o [9,10,0,1,2,3,4,5,6,7,8,11,12,13,14] 15;refine Ma.Leave_spec (a:=r.ag) h λH6 h=>⟨_,rfl,?_⟩
      rw[<-U]at h;refine V _ _ _ _ ?_;rw[<-h6]at h ⊢;exact B bl la lc H6 N.m (by omega) (h.o [2,4,5,0,1,6,8,9,10,11,12,13,14] 15)
    .have I:dL s r.ag=none:=by unfold dL;rw[Vs (by have:=hL.ag;omega),u];rfl
     have D:jo s r.ag=[]:=by unfold jo;rw[I]
     have U:gW s r.ag=s.ms:=by unfold gW;rw[I]
     refine⟨_,str_nil (h.o [9] 12) (.inr (.inl u)),?_⟩;intro j1 V;refine⟨λhn=>Vu hn (by simp),λ_=>V _ _ _ _ ?_⟩
     have h:=h.o [9,5,6,0,2,3,4,7,8,10,11] 12;obtain⟨bl,hm,h⟩:=lf.1 h;have l5:bl.length=s.sts.length:=by have:=congrArg List.length hm;simpa using this
     have e1:s.sts.set r.ag.toNat none=s.sts:=by
      have:s.sts[r.ag.toNat]=none:=by rw[List.getElem?_eq_getElem C]at u;exact Option.some.inj u
      rw[<-this,WG]
     have e2:bl.set r.ag.toNat none=bl:=by
      have h1:=qJ hm r.ag.toNat
      rw[u,List.getElem?_eq_getElem (show r.ag.toNat<bl.length by omega)]at h1;have:bl[r.ag.toNat]=none:=by
       cases e:bl[r.ag.toNat] with
       | none=>rfl
       | some x=>rw[e]at h1;simp at h1
      rw[<-this,WG]
     have Z:=B bl none 0 H3 hm (by rw[D];simp);rw[D,U]at Z;refine Z ?_;rw[show lQ Q bl s.sts r.ag.toNat=strsA Q bl s.sts by unfold lQ;rw[e1,e2]];exact h.sl_nil 305 87
   .rw [Vs (by simpa using Z)]at k;have h:=h.o [2,3,4,5,6,7,8,9,10,0,11] 12;have h:aA H3 (stA Q sb { s with now:=r.nw,rows:=G.1 }::_):=cX.2 ⟨p,h⟩;refine fin [] none 0 _ p _ (by simp) (λL M A h=>k L M A h) ?_
    exact (h.sl_nil 305 87).o [0,2,3,1] 4
  refine⟨_,h.r 1,_,h.r 10,_,h.r 10,_,h.r 10,?_,?_⟩
  .have h:=h.o [2,3,0,1,4,5,6,7,8,9,10] 11;refine Ro.Grant_spec ok.rows (agent:=r.ag) (boot:=r.bt) (now:=r.nw) h λH2 h=>⟨_,_,_,_,_,rfl,?_⟩
   refine h.al λb4 _ h=>?_
   refine h.st 0 rfl rfl ?_;intro H3 h;exact E _ _ (h.o [0,3,4,1,2,5,6,7,8,9,10,11] 12)
  .refine h.al λb5 _ h=>⟨h.r 11,h.r 11,h.r 11,h.r 2,?_⟩
   have h:=h.o [3,4,0,1,2,5,6,7,8,9,10,11] 12;refine Ro.Grant_spec ok.rows (agent:=r.ag) (boot:=r.bt) (now:=r.nw) h λH2 h=>⟨_,_,_,_,_,rfl,?_⟩
   refine h.st 2 rfl rfl ?_;intro H3 h;exact E _ _ (h.o [2,3,4,0,1,5,6,7,8,9,10,11] 12)
 refine⟨_,h.r 0,_,h.r 9,?_,?_⟩
 .have h:=h.o [1,2,0,3,4,5,6,7,8,9] 10;refine Ro.Of_spec ok.rows (agent:=r.ag) h λH2 h=>⟨_,_,_,_,rfl,?_⟩
  refine h.al λb6 _ h=>?_
  refine h.st 0 rfl rfl ?_;intro H3 h;exact R _ _ (h.o [0,3,1,2,4,5,6,7,8,9,10] 11)
 .refine h.al λb7 _ h=>⟨h.r 10,h.r 1,?_⟩
  have h:=h.o [2,3,0,1,4,5,6,7,8,9,10] 11;refine Ro.Of_spec ok.rows (agent:=r.ag) h λH2 h=>⟨_,_,_,_,rfl,?_⟩
  refine h.st 2 rfl rfl ?_;intro H3 h;exact R _ _ (h.o [2,3,0,1,4,5,6,7,8,9,10] 11)
end
def mS(s:aI)(r:Rp):aI:=match s.sts[r.ag.toNat]? with
 | some (some st)=>{ s with now:=r.sm.came,ms:=(s.ms.hold r.ag (kT st.ck r.sm).1.held).1,sts:=s.sts.set r.ag.toNat (some { st with ck:=(kT st.ck r.sm).1 }) }
 | _=>s
def mT(s:aI)(r:Rp):aI:=if s.sunk<r.nx then { s with kept:=s.kept.drop (r.nx-s.sunk).toNat,sunk:=r.nx } else s
def bO(s:aI)(r:Rp):aI×List bI×Int:=
 if r.right=false then (s,[],10) else
 if fB s r≠0 then (s,[],fB s r) else
 if r.kind=1 then ({ s with boots:=s.boots+1 },[],0) else
 if r.kind=2 then fC s r else
 if r.kind=3 then (mS s r,[],0) else
 if r.kind=4 then ((gD s r).1,(gD s r).2,0) else
 if r.kind=5 then (lS s r,[],0) else
 if r.kind=6 then ((kH s r.nw).1,(kH s r.nw).2,0) else
 (mT s r,[],0)
theorem lg{s:aI}{r:Rp}(ok:cR s)(d:RLim r)(h:fB s r=0)(c:r.kind=3\/r.kind=4\/r.kind=5):∃st,s.sts[r.ag.toNat]?=some (some st):=by
 unfold fB at h;rw[nO,nO]at h;unfold sD at h;have f:=d.ep.1 c
 split at h
 .simp at h
 .rename_i b;have a:isE s r.ag r.ep=true:=by
   cases e:isE s r.ag r.ep
   .exact Vu ⟨by omega,e⟩ b
   .rfl
  unfold isE at a;rw[Vz]at a;exact (ok.str (Vw a.1)).2
section
variable {F L:List aE}{H:aD}{K KP:KE}{Q Q':aE}
theorem Ko{sb:Nat}{s:aI}{r:Rp}{a:KQ}{c:Nat}{evs:List Ev}(ok:cR s)(hs:s.sunk<=4611686018427387903)(P:s.kept.length<=100000000000)(y:oA Q F r a evs)(h:aA H (Q::stA Q sb s::F))
  (k:∀Q' m n d,aM Q Q'->aA d (Q'::slA 305 87 m (bO s r).2.1.length n (flat dP (bO s r).2.1)::stA Q' sb (bO s r).1::F)->K (.tuple #[.slice m (bO s r).2.1.length n,aC (bO s r).2.2]) d) :
  CF 19 #[PA sb 0,.agg ⟨dg r a c⟩] H K:=by
 have j2:r.evs.length=evs.length:=by rw[y.eq,V8]
 refine cN 19 0x1d21b21517413c17111413c17413c17171499c [[],[],[],[],[]] ?_;refine h.al λb H0 h=>⟨_,_,_,_,_,_,_,_,_,_,_,_,_,_,h.q 0,?_⟩
 unfold bO at k;refine AC y.eq h ⟨λH h=>y.rd H h.tl.tl.tl,λe he H h=>(y.labs e he).at h 1 rfl⟩ (by have:=y.len;omega) λH1 h=>⟨_,rfl,λN=>?_,λN=>?_⟩
 .rw [Vt (by simpa using N)]at k;have h:=h.o [1,2] 3;exact k Q none 0 _ (aM.refl Q) ((h.sl_nil 305 87).o [1,0,2] 3)
 have Y:r.right=true:=by simpa using N
 have D:=iF Y;rw[Vs (by rw[Y];simp)]at k;have h:=h.o [2,0,1] 3;refine⟨_,_,_,_,_,_,_,_,_,_,_,_,_,_,h.q 1,?_⟩;refine Tz ok hs P Y h λH2 h=>⟨_,rfl,λN=>?_,λN=>?_⟩
 .rw [Vt (by simpa using N)]at k;have h:=h.o [0,2] 3;exact k Q none 0 _ (aM.refl Q) ((h.sl_nil 305 87).o [2,0,1] 3)
 have t:fB s r=0:=by simpa using N
 rw[Vs (by rw[t];simp)]at k;refine⟨_,h.r 1,?_⟩;intro Jn hJ;have fin:∀(i:aI) d,(∀Q' m n d,aM Q Q'->aA d (Q'::slA 305 87 m 0 n []::stA Q' sb i::F)->K (.tuple #[.slice m 0 n,aC 0]) d)->aA d (stA Q sb i::Q::F)->Jn d:=by
  intro i d kk h;refine hJ _ ?_;exact kk Q none 0 _ (aM.refl Q) ((h.sl_nil 305 87).o [2,0,1] 3)
 refine⟨λf=>?_,λf=>?_⟩
 .have f:=Vw f;rw[Vt f]at k;obtain⟨p,h⟩:=cX.1 h;refine⟨_,h.r 0,?_⟩;refine h.st 0 rfl rfl ?_;intro A h;have hb:=ok.boots;rw[aK (x:=s.boots+1)]at h;have h:=h.o [0,1,2,3,4,5,6,7,8,10] 11;have h:aA A (stA Q sb { s with boots:=s.boots+1 }::_):=cX.2 ⟨p,h⟩;exact fin _ _ k h
 have T:=Vx f;rw[Vs T]at k;refine⟨λf=>?_,λf=>?_⟩
 .have B:=Vw f;rw[Vt B]at k;refine⟨_,_,_,_,_,_,_,_,_,_,_,_,_,_,h.q 1,?_⟩;refine Grant_spec ok Y B h λm n A h=>⟨_,_,_,_,rfl,?_⟩
  exact k Q m n A (aM.refl Q) (h.o [3,0,1] 4)
 have B:=Vx f;rw[Vs B]at k;intro h0 Z;have L:∀(i:aI) d,(∀Q' m n d,aM Q Q'->aA d (Q'::slA 305 87 m 0 n []::stA Q' sb i::F)->K (.tuple #[.slice m 0 n,aC 0]) d)->aA d (stA Q sb i::Q::F)->h0 d:=by
  intro i d kk h;refine Z _ ?_;exact fin i d kk h
 refine⟨λf=>?_,λf=>?_⟩
 .have E:=Vw f;rw[Vt E]at k;obtain⟨st,u⟩:=lg ok D t (.inl E);unfold mS at k;rw[u]at k;dsimp only at k;have V:=ok.sts st (VY u);have R:((r.ag.toNat:Nat):Int)=r.ag:=by have:=D.ag;omega
  obtain⟨p,h⟩:=cX.1 h;have h:=h.o [7,0,1,2,3,4,5,6,8,9,10] 11;obtain⟨h7,bl,G,h⟩:=qK h u;have h:=h.o [1,0,2,3,4,5,6,7,8,9,10,11,12] 13;obtain⟨cb,hb,h⟩:=gV.1 h;have M:=qL G h 3 rfl;rw[R]at M;refine⟨_,h.r 5,_,h.r 13,_,M,⟨_,h.rd 0 rfl 0,_,_,_,_,h.q 13,?_⟩⟩;have h:=h.o [1,0,2,3,4,5,6,7,8,9,10,11,12,13,14] 15;refine Rh (s:=r.sm) V.ck h λA h=>⟨_,rfl,_,h.r 5,_,h.rd 13 rfl _,⟨_,h.rd 1 rfl 0,_,ue h,?_⟩⟩
  have h:=h.o [8,9,0,1,2,3,4,5,6,7,10,11,12,13,14] 15;refine Ma.Hold_spec (a:=r.ag) (v:=(kT st.ck r.sm).1.held) h λH4 h=>⟨_,rfl,_,h.r 13,?_⟩
  refine h.st 7 rfl rfl ?_;intro H5 h;refine L _ _ k ?_;have h:=h.o [3,2,4,5,6,7,8,9,0,1,10,11,12,14] 15;have h:aA H5 (strA Q h7 { st with ck:=(kT st.ck r.sm).1 }::_):=gV.2 ⟨cb,hb,h⟩;have h:=h.o [1,0,2,3,4,5,6,7,8,9,10,11] 12;have h:=sx G h;exact cX.2 ⟨p,h.o [1,2,3,4,5,6,7,0,8,9] 10⟩
 have E:=Vx f;rw[Vs E]at k;refine⟨λf=>?_,λf=>?_⟩
 .have w:=Vw f;rw[Vt w]at k;obtain⟨st,u⟩:=lg ok D t (.inr (.inl w));have hb:=D.evs w;unfold gT at hb;simp only[Vz,Vy,Wg]at hb;refine⟨_,_,_,_,_,_,_,_,_,_,_,_,_,_,h.q 1,?_⟩;have h:=h.o [2,0,1] 3;refine Tx (evs:=evs) ok D.ag.1 u ⟨y.eq,λH h=>y.rd H h.tl,y.labs,y.len,y.vals⟩ (λe he=>hb.2.2 e he) (by omega) h λQ2 m n A h2 h=>⟨_,_,_,rfl,?_⟩
  exact k Q2 m n A h2 (h.o [0,1,2] 4)
 have w:=Vx f;rw[Vs w]at k;intro h6 h8;have I:∀(i:aI) d,(∀Q' m n d,aM Q Q'->aA d (Q'::slA 305 87 m 0 n []::stA Q' sb i::F)->K (.tuple #[.slice m 0 n,aC 0]) d)->aA d (stA Q sb i::Q::F)->h6 d:=by
  intro i d kk h;refine h8 _ ?_;exact L i d kk h
 refine⟨λf=>?_,λf=>?_⟩
 .have C:=Vw f;rw[Vt C]at k;obtain⟨st,u⟩:=lg ok D t (.inr (.inr C));refine⟨_,_,_,_,_,_,_,_,_,_,_,_,_,_,h.q 1,?_⟩;refine Ty ok D.ag.1 u h λA h=>⟨rfl,I _ _ k (h.o [0,2] 3)⟩
 have C:=Vx f;rw[Vs C]at k;refine⟨λf=>?_,λf=>?_⟩
 .have O:=Vw f;rw[Vt O]at k;refine⟨_,h.r 1,?_⟩;refine Tick_spec ok hs P h λm n A h=>⟨_,_,_,rfl,?_⟩
  exact k Q m n A (aM.refl Q) (h.o [3,0,1] 4)
 have O:=Vx f;rw[Vs O]at k;intro h3 h5;have U:∀(i:aI) d,(∀Q' m n d,aM Q Q'->aA d (Q'::slA 305 87 m 0 n []::stA Q' sb i::F)->K (.tuple #[.slice m 0 n,aC 0]) d)->aA d (stA Q sb i::Q::F)->h3 d:=by
  intro i d kk h;refine h5 _ ?_;exact I i d kk h
 have W:r.kind=7:=by have:=D.kind;omega
 refine⟨λ_=>?_,λf=>Vu W (Vx f)⟩
 obtain⟨p,h⟩:=cX.1 h;refine⟨_,h.r 9,_,h.r 0,?_⟩;intro h4 h1;have J:∀(i:aI) d,(∀Q' m n d,aM Q Q'->aA d (Q'::slA 305 87 m 0 n []::stA Q' sb i::F)->K (.tuple #[.slice m 0 n,aC 0]) d)->aA d (stA Q sb i::Q::F)->h4 d:=by
  intro i d kk h;refine h1 _ ?_;exact U i d kk h
 unfold mT at k;refine⟨λf=>?_,λf=>?_⟩
 .have f:=Vw f;rw[Vt f]at k;have S:r.nx<=s.next:=by
   unfold fB at t;rw[Vs T,Vt W]at t
   split at t
   .simp at t
   .omega
  have S:r.nx<=s.sunk+(s.kept.length:Int):=S;have j1:=ok.sunk;have h9:=D.nx;have hw:i64.wrap (r.nx-s.sunk)=((r.nx-s.sunk).toNat:Nat):=by rw[aK];omega
  refine⟨_,_,_,h.r 0,_,h.r 9,_,h.r 0,?_⟩;dsimp only
  conv=>whnf
  rw[hw];have h:=h.o [8,0,1,2,3,4,5,6,7,9,10] 11;refine Sz (j:=(r.nx-s.sunk).toNat) (by omega) h λA h=>⟨_,_,_,rfl,?_⟩
  refine h.st 1 rfl rfl ?_;intro H4 h;refine⟨_,h.r 9,?_⟩;refine h.st 1 rfl rfl ?_;intro H5 h;refine J _ _ k ?_;refine cX.2 ⟨p,?_⟩;have e:(s.kept.drop (r.nx-s.sunk).toNat).length=s.kept.length-(r.nx-s.sunk).toNat:=VH ..;simp only[dr,e];exact h.o [1,2,3,4,5,6,7,8,0,10] 11
 .rw [Vs (Vx f)]at k;refine J _ _ k (cX.2 ⟨p,h.o [0,1,2,3,4,5,6,7,8,10] 11⟩)
end
section
variable {α:Type}
theorem Kp{next most B:Int}:∀{l:List α} {n:Int} {s:cy α×Int},(∀p∈s.1,p.1<B)->n+l.length<=B->∀p∈(fj next most n l s).1,p.1<B
 | [],n,s,h,_=>h
 | v::vs,n,s,h,hn=>by
  rw[V1]at hn;refine Kp (l:=vs) (λp a=>?_) (by omega)
  unfold eA at a
  split at a
  .exact h p a
  .split at a
   .exact h p a
   .rcases tD.1 a with rfl|a
    .show n<B;omega
    .exact h p a
theorem pop_le{B:Int}:∀{l:cy α} {next:Int},next<=B->(∀p∈l,p.1<B)->(pop next l).2.1<=B
 | [],next,h,_=>h
 | (n,v)::r,next,h,hl=>by
  unfold pop
  split
  .rename_i e;have:=hl _ (VA ..);exact pop_le (l:=r) (next:=next+1) (by dsimp only at this;omega) λp a=>hl p (VD _ a)
  .exact h
theorem Kq{s:HS α}{first B:Int}{items:List α}(a:s.next<=B)(b:∀p∈s.rows,p.1<B)(c:first+items.length<=B) :
  (s.offer first items).1.next<=B/\∀p∈(s.offer first items).1.rows,p.1<B:=by
 unfold HS.offer
 split
 .exact⟨a,b⟩
 .have h:=Kp (next:=s.next) (most:=s.most) (l:=items) (n:=first) (s:=(s.rows,0)) b c;exact⟨pop_le a h,λp d=>h p (Az.2 p d)⟩
end
theorem Kr(ms:MS)(a t:Int):(ms.raise a t).1.lag=ms.lag:=by
 unfold MS.raise
 split
 .rfl
 .split <;> rfl
theorem hold_lag(ms:MS)(a:Int)(b:Bool):(ms.hold a b).1.lag=ms.lag:=by
 unfold MS.hold;split <;> rfl
theorem T4(ms:MS)(a:Int):(ms.leave a).1.lag=ms.lag:=by
 unfold MS.leave;split <;> rfl
theorem join_lag(ms:MS)(a t:Int):(ms.join a t).1.lag=ms.lag:=by
 unfold MS.join
 split
 .rfl
 .split <;> rfl
theorem tick_lag(ms:MS)(t:Int):(ms.tick t).1.lag=ms.lag:=by
 unfold MS.tick;split <;> rfl
theorem Ks{c:bD}{now a:Int}{st:br}{ms:MS}{cm:CM}{e:Pv}(h:MOk ms):MOk (eE c now a st ms cm e).ms/\(eE c now a st ms cm e).ms.lag=ms.lag:=by
 have b:=h.raise a (cQ st.ck (bG ms a) now e.stamp).1.lo;have d:=Kr ms a (cQ st.ck (bG ms a) now e.stamp).1.lo;unfold eE
 split
 .exact⟨h,rfl⟩
 split
 .exact⟨h,rfl⟩
 split
 .exact⟨b,d⟩
 split
 .exact⟨b,d⟩
 split <;> exact⟨b,d⟩
theorem Kt{c:bD}{now a ep first:Int}{evs:List Pv}{x:JS}(h:MOk x.ms)(f:-1<=x.st.last/\x.st.last<=4611686018427387903)(i:∀e∈evs,gS e=true):∀n,n<=evs.length->
  MOk (dh c now a ep first evs x n).1.ms/\(dh c now a ep first evs x n).1.ms.lag=x.ms.lag/\-1<=(dh c now a ep first evs x n).1.st.last/\(dh c now a ep first evs x n).1.st.last<=4611686018427387903
 | 0,_=>⟨h,rfl,f⟩
 | n+1,hn=>by
  have d:=Kt (c:=c) (now:=now) (a:=a) (ep:=ep) (first:=first) h f i n (by omega);have j:=xr c now a (dh c now a ep first evs x n).1.st (dh c now a ep first evs x n).1.ms (dh c now a ep first evs x n).1.cm (evs.getD n Pv.z);have hm:=Ks (c:=c) (now:=now) (a:=a) (st:=(dh c now a ep first evs x n).1.st) (cm:=(dh c now a ep first evs x n).1.cm) (e:=evs.getD n Pv.z) d.1;have b:gS (evs.getD n Pv.z)=true:=by rw[ov _ (by omega)];exact i _ (V7 _)
  unfold gS at b;simp only[Vz,Vy]at b;refine⟨hm.1,hm.2.trans d.2.1,?_⟩;show -1<=(eE c now a _ _ _ _).st.last/\(eE c now a _ _ _ _).st.last<=_
  rcases j.2.2 with e|e
  .rw [e];exact d.2.2
  .rw [e];omega
theorem cR.setStr{s:aI}(ok:cR s){k:Nat}{st a:br}{now:Int}{ms:MS}{cm:CM}(d:s.sts[k]?=some (some st))(i:isT now)(h:MOk ms)(m:ms.lag=s.ms.lag)(n:dZ s.cfg.cells cm)(f:lR s.cfg a) :
  cR { s with now:=now,ms:=ms,cm:=cm,sts:=s.sts.set k (some a) }:=by
 have c:k<s.sts.length:=(List.getElem?_eq_some_iff.1 d).1;refine⟨ok.cfg,i,ok.boots,ok.sunk,ok.rows,h,m.trans ok.lag,n,?_,λx b=>?_,λj=>?_,ok.kept⟩
 .show (s.sts.set k _).length=64;rw[Yv,ok.len]
 .rcases Yu b with b|b
  .exact ok.sts x b
  .cases b;exact f
 .rw [<-ok.reg j];show (∃x,(s.sts.set k (some a))[j]?=some (some x))↔_
  by_cases e:j=k
  .subst e;rw[List.getElem?_set_self c];exact⟨λ_=>⟨st,d⟩,λ_=>⟨a,rfl⟩⟩
  .rw [List.getElem?_set_ne (by omega)]
theorem cR.upd{s:aI}(ok:cR s){now:Int}{ms:MS}{cm:CM}{kept:List Ot}{sunk boots:Int}(d:isT now)(b:MOk ms)(e:ms.lag=s.ms.lag)(f:dZ s.cfg.cells cm)(a:∀o∈kept,WC o.2)(c:0<=sunk)(h:0<=boots/\boots<=1099511627776) :
  cR { s with now:=now,ms:=ms,cm:=cm,kept:=kept,sunk:=sunk,boots:=boots }:=
 ⟨ok.cfg,d,h,c,ok.rows,b,e.trans ok.lag,f,ok.len,ok.sts,ok.reg,a⟩
theorem xu{most:Int}{m:CM}(h:dZ most m):∀o∈bA m,WC o.2:=by
 intro o a;unfold bA at a;obtain⟨k,_,rfl⟩:=V3.1 a;exact h.cell k
theorem T5{c:bD}(h:jC c):lR c (lT c) where
 ck:=⟨by simp[lT],λs hs=>Vu hs (by simp[lT]),by show (0:Int)<=0/\(0:Int)<=9223372036854775807;decide⟩
 rho:=rfl
 least:=rfl
 hs:=⟨by show (0:Int)<=0;decide,h.hd.1,h.hd.2,⟨by simp[lT,gJ],λp a=>Vu a (by simp[lT])⟩⟩
 most:=rfl
 next:=by show (0:Int)<=_;decide
 rows:=λp a=>Vu a (by simp[lT])
 last:=by show (-1:Int)<=-1/\(-1:Int)<=4611686018427387903;decide
theorem T6(c:Ck)(s:bQ):(kT c s).1.rho=c.rho/\(kT c s).1.least=c.least:=by
 unfold kT
 split
 .exact⟨rfl,rfl⟩
 .dsimp only;generalize pi _=B
  cases B <;> exact⟨rfl,rfl⟩
theorem batch_ok{s:aI}{r:Rp}(ok:cR s)(t:RLim r)(D:r.kind=4){st:br}(f:s.sts[r.ag.toNat]?=some (some st))(v:∀e∈r.evs,aF e.value):cR (gD s r).1:=by
 have b:=ok.sts st (VY f);have hb:=t.evs D;unfold gT at hb;simp only[Vz,Vy,Wg]at hb;obtain⟨⟨y,C⟩,⟨⟨w,E⟩,A⟩,j⟩:=hb;have u:=HS.offer_ok b.hs r.nx r.evs;have hm:=un (s:=st.hs) (first:=r.nx) (items:=r.evs);have m:=Kq (s:=st.hs) (first:=r.nx) (B:=1099511627776) (items:=r.evs) b.next (λp n=>(b.rows p n).1) (by omega)
 unfold gD;rw[f];dsimp only;unfold kG;generalize st.hs.offer r.nx r.evs=O at *;have good:∀e∈O.2.1,gS e=true/\aF e.value:=by
  intro e k
  rcases hm.1 e k with h|⟨q,h,rfl⟩
  .exact⟨j e h,v e h⟩
  .exact (b.rows q h).2
 have d:=AW (c:=s.cfg) (now:=r.nw) (a:=r.ag) (ep:=r.ep) (first:=st.hs.next) (evs:=O.2.1) (x:=⟨{ st with hs:=O.1 },s.ms,s.cm⟩) ok.sh (λe k=>(good e k).2) O.2.1.length (V2 _)
 have i:=Kt (c:=s.cfg) (now:=r.nw) (a:=r.ag) (ep:=r.ep) (first:=st.hs.next) (evs:=O.2.1) (x:=⟨{ st with hs:=O.1 },s.ms,s.cm⟩) ok.ms b.last (λe k=>(good e k).1) O.2.1.length (V2 _)
 generalize dh s.cfg r.nw r.ag r.ep st.hs.next O.2.1 ⟨{ st with hs:=O.1 },s.ms,s.cm⟩ O.2.1.length=G at *;refine ok.setStr f t.nw i.1 i.2.1 d.1 ⟨by rw[d.2.1];exact b.ck,by rw[d.2.1];exact b.rho,by rw[d.2.1];exact b.least,by rw[d.2.2.1];exact u.1,by rw[d.2.2.1];exact u.2.2.2.trans b.most,by rw[d.2.2.1];exact m.1,?_,i.2.2⟩;rw[d.2.2.1];intro p n;refine⟨m.2 p n,?_⟩
 rcases hm.2 p n with h|h
 .exact⟨j _ h,v _ h⟩
 .exact (b.rows p h).2
theorem xv{most:Int}{rows:List En}(c:fQ rows)(a b n:Int) :
  ((grant most rows a b n).2.2.1=true/\(grant most rows a b n).1=rows.set a.toNat (grant most rows a b n).2.1/\0<(grant most rows a b n).2.1.epoch/\(grant most rows a b n).2.2.2=0/\(grant most rows a b n).2.1.epoch=(bg rows a).epoch+1)\/
  ((grant most rows a b n).2.2.1=false/\(grant most rows a b n).1=rows/\((grant most rows a b n).2.2.2=0->(grant most rows a b n).2.1=bg rows a/\0<(bg rows a).epoch)):=by
 have h0:=(c.at a).1;unfold grant
 split
 .exact .inr ⟨rfl,rfl,λh=>by simp at h⟩
 dsimp only
 split
 .rename_i h;exact .inr ⟨rfl,rfl,λ_=>⟨rfl,h.1⟩⟩
 split
 .exact .inr ⟨rfl,rfl,λh=>by simp at h⟩
 split
 .exact .inr ⟨rfl,rfl,λh=>by simp at h⟩
 split
 .exact .inr ⟨rfl,rfl,λh=>by simp at h⟩
 .exact .inl ⟨rfl,rfl,by show 0<(bg rows a).epoch+1;omega,rfl,rfl⟩
theorem oldM_ok{s:aI}(ok:cR s)(a:Int):MOk (gW s a)/\(gW s a).lag=s.ms.lag:=by
 unfold gW
 split
 .exact⟨ok.ms.leave a,T4 _ _⟩
 .exact⟨ok.ms,rfl⟩
theorem T7{s:aI}{r:Rp}(ok:cR s)(d:RLim r):cR (fC s r).1:=by
 have k:=xv (most:=s.cfg.agents) ok.rows r.ag r.bt r.nw;have h:=grant_ok (most:=s.cfg.agents) ok.rows r.ag r.bt r.nw;have i:=oldM_ok ok r.ag;unfold fC
 split
 .exact ok
 split
 .rename_i c
  rcases k with ⟨-,g2,g3,g4,-⟩|⟨g1,_⟩
  .have f:r.ag.toNat<s.sts.length:=by rw[ok.len];have:=d.ag;omega
   have a:r.ag.toNat<s.rows.length:=by rw[ok.rows.len];have:=d.ag;omega
   refine⟨ok.cfg,d.nw,ok.boots,ok.sunk,h,i.1.join _ _,(join_lag _ _ _).trans (i.2.trans ok.lag),ok.sh,?_,λx b=>?_,λj=>?_,ok.kept⟩
   .show (s.sts.set _ _).length=64;rw[Yv,ok.len]
   .rcases Yu b with b|b
    .exact ok.sts x b
    .cases b;exact T5 ok.cfg
   .dsimp only;rw[g2]
    by_cases e:j=r.ag.toNat
    .subst e;rw[List.getElem?_set_self f,List.getElem?_set_self a];exact⟨λ_=>⟨_,rfl,g3⟩,λ_=>⟨_,rfl⟩⟩
    .rw [List.getElem?_set_ne (by omega),List.getElem?_set_ne (by omega)];exact ok.reg j
  .rw [g1]at c;cases c
 .rename_i c
  rcases k with ⟨g1,_⟩|⟨-,g2,_⟩
  .exact Vu g1 c
  .dsimp only;rw[g2];exact ok.upd (kept:=s.kept) (sunk:=s.sunk) (boots:=s.boots) d.nw ok.ms rfl ok.sh ok.kept ok.sunk ok.boots
theorem AX{m:CM}{b:Int}{o:Ot}(h:o∈iC m b):o∈bA m:=(List.takeWhile_sublist _).subset h
theorem apply_ok{s:aI}{r:Rp}(ok:cR s)(m:∀e∈r.evs,aF e.value):cR (bO s r).1:=by
 unfold bO
 split
 .exact ok
 rename_i j;have j:r.right=true:=by simpa using j
 have d:=iF j
 split
 .exact ok
 rename_i c;have c:fB s r=0:=by simpa using c
 split
 .rename_i f;have hb:s.boots<1099511627776:=by
   unfold fB at c;rw[Vt f]at c
   split at c
   .simp at c
   .omega
  exact ok.upd (now:=s.now) (kept:=s.kept) (sunk:=s.sunk) (boots:=s.boots+1) ok.now ok.ms rfl ok.sh ok.kept ok.sunk (by have:=ok.boots;omega)
 split
 .exact T7 ok d
 split
 .rename_i f;obtain⟨st,b⟩:=lg ok d c (.inl f);have a:=ok.sts st (VY b);unfold mS;rw[b];have k:=T6 st.ck r.sm;have i:=d.sm;unfold bQ.ok at i;exact ok.setStr b i.2.2.2.1 (ok.ms.hold _ _) (hold_lag _ _ _) ok.sh ⟨ckAdd_ok a.ck r.sm,k.1.trans a.rho,k.2.trans a.least,a.hs,a.most,a.next,a.rows,a.last⟩
 split
 .rename_i f;obtain⟨st,b⟩:=lg ok d c (.inr (.inl f));exact batch_ok ok d f b m
 split
 .rename_i f;obtain⟨st,b⟩:=lg ok d c (.inr (.inr f));have a:=ok.sts st (VY b);have same:=ok.upd (now:=r.nw) (kept:=s.kept) (sunk:=s.sunk) (boots:=s.boots) d.nw ok.ms rfl ok.sh ok.kept ok.sunk ok.boots;unfold lS;rw[b];dsimp only
  split
  .exact same
  split
  .exact same
  .have:=d.st;exact ok.setStr b d.nw (ok.ms.raise _ _) (Kr _ _ _) ok.sh ⟨a.ck,a.rho,a.least,a.hs,a.most,a.next,a.rows,by show -1<=r.st/\r.st<=4611686018427387903;omega⟩
 split
 .unfold kH;exact ok.upd (sunk:=s.sunk) (boots:=s.boots) d.nw (ok.ms.tick _) (tick_lag _ _) (Tt ok.sh) (λo h=>by
   rcases VK.1 h with h|h
   .exact ok.kept o h
   .exact xu ok.sh o (AX h)) ok.sunk ok.boots
 .unfold mT
  split
  .exact ok.upd (now:=s.now) (boots:=s.boots) ok.now ok.ms rfl ok.sh (λo h=>ok.kept o (W3 h)) d.nx.1 ok.boots
  .exact ok
def fD(c:bD):Bool:=decide c.gd.ok&&decide (1<=c.lag/\c.lag<=1099511627776)&&decide (gA c.rho/\0<=c.trust/\c.trust<=100)&&decide (1<=c.agents/\c.agents<=64)&&decide (1<=c.cells/\c.cells<=1024)&&decide (1<=c.hold/\c.hold<=256)
theorem uA{c:bD}(h:fD c=true):jC c:=by
 unfold fD at h;simp only[Vz,Vy]at h;obtain⟨⟨⟨⟨⟨d,i⟩,f⟩,b⟩,a⟩,e⟩:=h;exact⟨d,i,f,b,a,e⟩
def bU(c:bD):aI:=⟨c,0,0,0,List.replicate 64 En.z,MS.new c.lag,[],List.replicate 64 none,[]⟩
theorem qM{c:bD}(h:jC c):cR (bU c) where
 cfg:=h
 now:=by show isT 0;decide
 boots:=by show (0:Int)<=0/\(0:Int)<=1099511627776;decide
 sunk:=by show (0:Int)<=0;decide
 rows:=Td
 ms:=MOk.new h.lag.1 h.lag.2
 lag:=rfl
 sh:=⟨h.cl.1,h.cl.2,by simp[bU],λp a=>Vu a (by simp[bU]),λp a=>Vu a (by simp[bU]),λp a=>Vu a (by simp[bU]),by have:=h.cl;simp[bU];omega⟩
 len:=by simp[bU]
 sts:=λst hs=>by
  have:=YB hs
  cases this
 reg:=λk=>by
  unfold bU;dsimp only;rw[List.getElem?_replicate,List.getElem?_replicate]
  by_cases hk:k<64
  .rw [Vt hk,Vt hk]
   constructor
   .rintro⟨st,h⟩;cases h
   .rintro⟨e,h,h2⟩;cases h;simp[En.z]at h2
  .rw [Vs hk,Vs hk]
   constructor
   .rintro⟨st,h⟩;cases h
   .rintro⟨e,h,h2⟩;cases h
 kept:=λo b=>Vu b (by simp[bU])
structure AgR where
 en:En
 fl:Fl
 last:Int
 next:Int
 wait:Int
 smps:Int
def AgR.z:AgR:=⟨En.z,Fl.z,0,0,0,0⟩
abbrev encA(x:AgR):Os:=[aB x.en.epoch,aB x.en.boot,aB x.en.time,aB x.fl.t,.bool x.fl.out,.bool x.fl.was,.bool x.fl.held,aB x.last,aB x.next,aB x.wait,aB x.smps]
def lh(s:aI)(a:Int):AgR×Bool:=if 0<(bg s.rows a).epoch then (match dL s a with
 | some st=>(⟨bg s.rows a,bG s.ms a,st.last,st.hs.next,(st.hs.rows.length:Nat),(st.ck.smps.length:Nat)⟩,true)
 | none=>(AgR.z,true)) else (AgR.z,false)
section
variable {F L:List aE}{H:aD}{K KP:KE}{Q Q':aE}
def eN(p:Prop)[Decidable p]:Int:=if p then 0 else 11
theorem uB{p:Prop}[Decidable p](h:p):eN p=0:=Vt h
theorem uC{p:Prop}[Decidable p](h:¬p):eN p=11:=Vs h
theorem lU(h:aA H F):aA H (emp::F):=by
 unfold aA at *;simpa[star,oM] using h
theorem MarkE{lag:Int}(h:aA H F)(k:∀p a,aA a F->K (.tuple #[.pointer p,aC (eN (1<=lag/\lag<=1099511627776))]) a):CF 181 #[aC lag] H K:=by
 refine Ma.New_spec h (λd=>?_) λb c mb rb a h=>?_
 .have:=k none H h;rw[uC (by omega)]at this;exact this
 .have:=k (some ⟨mb,0,none⟩) a h.tl.tl;rw[uB ⟨b,c⟩]at this;exact this
theorem ClockE{rho least:Int}(h:aA H F)(k:∀p a,aA a F->K (.tuple #[.pointer p,aC (eN (gA rho/\0<=least/\least<=100))]) a):CF 182 #[aC rho,aC least] H K:=by
 refine Iu h (λc=>?_) λd b a h=>?_
 .have:=k none H h;rw[uC c]at this;exact this
 .have:=k (some ⟨b,0,none⟩) a h.tl;rw[uB d]at this;exact this
theorem RollE{most:Int}(h:aA H F)(k:∀p a,aA a F->K (.tuple #[.pointer p,aC (eN (1<=most/\most<=64))]) a):CF 183 #[aC most] H K:=by
 refine Ro.New_spec h (λb=>?_) λc rb mb a h=>?_
 .have:=k none H h;rw[uC (by omega)]at this;exact this
 .have:=k (some ⟨rb,0,none⟩) a h.tl.tl;rw[uB (by omega)]at this;exact this
theorem ShelfE{most:Int}(h:aA H F)(k:∀p a,aA a F->K (.tuple #[.pointer p,aC (eN (1<=most/\most<=1024))]) a):CF 184 #[aC most] H K:=by
 refine I9 h (λb=>?_) λrb mb a ok h=>?_
 .have:=k none H h;rw[uC (by omega)]at this;exact this
 .have:=k (some ⟨rb,0,none⟩) a h.tl.tl;rw[uB ⟨ok.m1,ok.m2⟩]at this;exact this
theorem HoldE{most:Int}(h:aA H F)(k:∀p a,aA a F->K (.tuple #[.pointer p,aC (eN (1<=most/\most<=256))]) a):CF 185 #[aC 0,aC most] H K:=by
 refine A7 (Q:=emp) h (λb=>?_) λhb a c h=>?_
 .have:=k none H h;rw[uC (by omega)]at this;exact this
 .have:=k (some ⟨hb,0,none⟩) a h.tl;rw[uB (by omega)]at this;exact this
theorem eq138{a b c d e f:Int}:gY Tryz.prog .eql 357 (.agg #[aC a,aC b,aC c,aC d,aC e,aC f]) (.agg #[aC 0,aC 0,aC 0,aC 0,aC 0,aC 0])
  (decide (a=0)&&decide (b=0)&&decide (c=0)&&decide (d=0)&&decide (e=0)&&decide (f=0)):=by
 have h:=(yO (P:=Tryz.prog) (t:=357) (xs:=[aC a,aC b,aC c,aC d,aC e,aC f]) (ys:=[aC 0,aC 0,aC 0,aC 0,aC 0,aC 0])
  (r:=(a == 0&&(b == 0&&(c == 0&&(d == 0&&(e == 0&&(f == 0&&true))))))) (by kernel_rfl)).1
 have e:(a == 0&&(b == 0&&(c == 0&&(d == 0&&(e == 0&&(f == 0&&true))))))=(decide (a=0)&&decide (b=0)&&decide (c=0)&&decide (d=0)&&decide (e=0)&&decide (f=0)):=by
  rw[Wb];simp only[Vz,beq_iff_eq,Vy,Bool.and_true]
  constructor
  .rintro⟨h1,h2,h3,h4,h5,h6⟩;exact⟨⟨⟨⟨⟨h1,h2⟩,h3⟩,h4⟩,h5⟩,h6⟩
  .rintro⟨⟨⟨⟨⟨h1,h2⟩,h3⟩,h4⟩,h5⟩,h6⟩;exact⟨h1,h2,h3,h4,h5,h6⟩
 rw[e]at h;exact h
theorem eN0(p:Prop)[Decidable p]:decide (eN p=0)=decide p:=by
 unfold eN
 by_cases h:p
 .simp [h]
 .simp [h]
theorem AY{c:bD}(h:aA H F)(k:∀d,aA d F->K (.bool (fD c)) d):CF 84 #[.agg ⟨oz c⟩] H K:=by
 refine cM 84 286331164 ?_;refine h.al λb _ h=>⟨_,h.r 0,_,h.r 0,_,h.r 0,?_⟩
 refine Ir (g:=c.gd) h λf h=>⟨_,_,_,_,rfl,?_⟩
 refine h.al λb1 _ h=>?_
 refine h.st 0 rfl rfl ?_;intro m h;refine⟨_,h.r 1,MarkE h λp1 i h=>⟨_,_,rfl,_,h.r 1,_,h.r 1,ClockE h λp2 s h=>⟨_,_,rfl,_,h.r 1,RollE h λp3 t h=>⟨_,_,rfl,_,h.r 1,ShelfE h λp4 j h=>⟨_,_,rfl,_,h.r 1,HoldE h λp5 n h=>⟨_,_,rfl,_,eq138,?_⟩⟩⟩⟩⟩⟩
 have e:fD c=(decide ((if c.gd.ok then (0:Int) else 11)=0)&&decide (eN (1<=c.lag/\c.lag<=1099511627776)=0)&&decide (eN (gA c.rho/\0<=c.trust/\c.trust<=100)=0)&&decide (eN (1<=c.agents/\c.agents<=64)=0)&&decide (eN (1<=c.cells/\c.cells<=1024)=0)&&decide (eN (1<=c.hold/\c.hold<=256)=0)):=by
  have a:=eN0 c.gd.ok;unfold eN at a;rw[a,eN0,eN0,eN0,eN0,eN0];rfl
 rw[<-e];exact k _ h.tl.tl
theorem Ku{c:bD}(h:aA H F)(k1:fD c=false->∀a,aA a F->K (.tuple #[.pointer none,aC 11]) a)(k2:fD c=true->∀sb a,aA a (stA Q sb (bU c)::F)->K (.tuple #[PA sb 0,aC 0]) a) :
  CF 102 #[.agg ⟨oz c⟩] H K:=by
 refine cM 102 487657756 ?_;refine h.al λb _ h=>⟨_,_,_,_,_,_,_,_,_,h.q 0,?_⟩
 refine AY (c:=c) h λn h=>⟨_,rfl,λd=>?_,λd=>?_⟩
 .exact k1 (by simpa using d) _ h.tl
 have f:fD c=true:=by simpa using d
 have ok:=uA f;refine⟨_,_,_,_,_,_,_,_,_,h.q 0,?_⟩;refine h.alm aC ptV λtm _ h=>?_
 refine h.al λsb _ h=>⟨_,h.r 2,_,h.r 2,_,h.r 2,?_⟩
 refine Ir (g:=c.gd) h λm h=>⟨_,_,_,_,rfl,?_⟩
 rw[Vt ok.gd];refine h.st 0 rfl rfl ?_;intro u h;refine⟨_,h.r 2,Ro.New_spec h (λi=>Vu ok.ag (by omega)) λ_ rb rm s h=>⟨_,_,rfl,?_⟩⟩
 refine h.st 2 rfl rfl ?_;intro w h;refine⟨_,h.r 4,Ma.New_spec h (λi=>Vu ok.lag (by omega)) λ_ _ mb mm x h=>⟨_,_,rfl,?_⟩⟩
 refine h.st 4 rfl rfl ?_;intro t h;refine⟨_,h.r 6,I9 h (λi=>Vu ok.cl (by omega)) λhb hm v _ h=>⟨_,_,rfl,?_⟩⟩
 refine h.st 6 rfl rfl ?_;intro j h;refine k2 f sb _ (cX.2 ⟨⟨rb,rm,mb,mm,hb,hm,tm,none,0⟩,?_⟩);have h:=(h.sl_nil 164 74).o [8,0,7,5,6,3,4,1,2] 10;have k:aA j (strmA Q tm (List.replicate 64 none)::_):=lf.2 ⟨List.replicate 64 none,by simp,by
  rw[AT];have e:cW 0 (List.replicate 64 (none:Option Nat))=[]:=by decide
  rw[e];have:=lU h;exact this.o [1,0] 2⟩
 exact k.o [2,3,4,5,6,7,8,0,1] 9
end
end Go.Proofs.YtaaieblnikcndaaGreatDoor
