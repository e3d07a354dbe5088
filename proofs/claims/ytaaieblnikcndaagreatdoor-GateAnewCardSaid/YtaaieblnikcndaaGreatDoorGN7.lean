/-
  Lemmas for GateAnew: part 7 of what it rests on. Conditions: none.
-/
import Derived.Test.YtaaieblnikcndaaGreatDoorGN6
set_option linter.unusedVariables false
set_option linter.unusedSimpArgs false
set_option maxRecDepth 100000
set_option maxHeartbeats 16000000
open Go.IntKind (i64 u64 i8 u8 i32 u32 i16 u16)
namespace Go.Proofs.YtaaieblnikcndaaGreatDoor
open Go
structure Fl where
 t:Int
 out:Bool
 was:Bool
 held:Bool
deriving DecidableEq
def Fl.z:Fl:=⟨0,false,false,false⟩
abbrev encF(x:Fl):Os:=[.int .i64 x.t,.bool x.out,.bool x.was,.bool x.held]
abbrev mO(x:Fl):Value:=.agg #[.int .i64 x.t,.bool x.out,.bool x.was,.bool x.held]
abbrev FM:=List (Int×Fl)
abbrev isT(t:Int):Prop:=0<=t/\t<=4611686018427387903
abbrev isAg(a:Int):Prop:=0<=a/\a<64
structure MS where
 lag:Int
 now:Int
 value:Int
 m:FM
deriving DecidableEq
structure MOk(s:MS):Prop where
 l1:1<=s.lag
 l2:s.lag<=1099511627776
 n:isT s.now
 v1:-s.lag<=s.value
 v2:s.value<=4611686018427387903
 nd:(aG s.m).Nodup
 rows:∀p∈s.m,isAg p.1/\isT p.2.t
def MS.new(lag:Int):MS:=⟨lag,0,-lag,[]⟩
def MS.join(s:MS)(a t:Int):MS×Int:=
 if ¬isAg a\/¬isT t then (s,11) else
 match aJ a s.m with
 | some _=>(s,18)
 | none=>({ s with m:=mset a ⟨t,false,false,false⟩ s.m },0)
def MS.raise(s:MS)(a t:Int):MS×Int:=
 match aJ a s.m with
 | none=>(s,19)
 | some x=>if ¬isT t then (s,11) else ({ s with m:=mset a ⟨if t>x.t then t else x.t,x.out,x.was,x.held⟩ s.m },0)
def MS.hold(s:MS)(a:Int)(b:Bool):MS×Int:=
 match aJ a s.m with
 | none=>(s,19)
 | some x=>({ s with m:=mset a ⟨x.t,x.out,x.was,b⟩ s.m },0)
def MS.leave(s:MS)(a:Int):MS×Int:=
 match aJ a s.m with
 | none=>(s,19)
 | some _=>({ s with m:=bT a s.m },0)
def ko(lim:Int)(x:Fl):Fl:=⟨x.t,decide (x.t<lim),x.was||decide (x.t<lim),x.held⟩
def nS(lim:Int)(s:Int×Bool)(x:Fl):Int×Bool:=
 if ¬x.t<lim/\x.held=false/\(s.2=false\/x.t<s.1) then (x.t,true) else s
def j9(lim:Int)(m:FM):List Int->Int×Bool->Int×Bool
 | [],s=>s
 | k::r,s=>j9 lim m r (nS lim s ((aJ k m).getD Fl.z))
abbrev maxI(a b:Int):Int:=if b>a then b else a
def MS.tick(s:MS)(now:Int):MS×Int:=
 if ¬isT now\/now<s.now then (s,11) else
 ({ s with now:=now,value:=maxI s.value (j9 (now-s.lag) s.m (sortI (aG s.m)) (now-s.lag,false)).1,m:=s.m.map λp=>(p.1,ko (now-s.lag) p.2) },0)
section
variable {κ α:Type}[DecidableEq κ]
theorem JX{k:κ}{v:α}:∀{m:List (κ×α)},(aG m).Nodup->k∈aG m->(m.map λp=>if p.1=k then (k,v) else p).Perm (mset k v m)
 | [],_,h=>by simp at h
 | p::r,hn,h=>by
  simp only[aG,Wa,WQ]at hn
  by_cases e:p.1=k
  .have a:k∉aG r:=by rw[<-e];exact hn.1
   have e1:(r.map λp=>if p.1=k then (k,v) else p)=r:=by
    conv=>rhs;rw[<-List.map_id r]
    apply WS;intro q b;rw[V0 (λe2=>a (by rw[<-e2];exact VB.2 ⟨q,b,rfl⟩))];rfl
   have e2:bT k (p::r)=r:=by
    have:bT k (p::r)=bT k r:=by simp[bT,Wk,e]
    rw[this,kP (fw.2 a)]
   rw[Wa,V1 e,e1];unfold mset;rw[e2]
  .have a:k∈aG r:=by
    simp only[aG,Wa,VJ]at h;exact h.resolve_left (λe2=>e e2.symm)
   rw[Wa,V0 e];refine ((JX (m:=r) hn.2 a).cons p).trans ?_;unfold mset;have:bT k (p::r)=p::bT k r:=by simp[bT,Wk,e]
   rw[this];exact .swap _ _ _
theorem xi{β:Type}{f:κ->α->β}{k:κ}:∀{m:List (κ×α)},aJ k (m.map λp=>(p.1,f p.1 p.2))=(aJ k m).map (f k)
 | []=>rfl
 | p::r=>by
  have a:=xi (f:=f) (k:=k) (m:=r);simp only[Wa,aJ]
  split
  .rename_i e;rw[<-e];rfl
  .exact a
omit [DecidableEq κ] in
theorem JY{β:Type}{f:κ->α->β}{m:List (κ×α)}:aG (m.map λp=>(p.1,f p.1 p.2))=aG m:=by simp[aG,Function.comp_def]
end
theorem JZ:∀(n:Nat) (l:List Int),l.Nodup->(∀x∈l,0<=x/\x<(n:Int))->l.length<=n
 | 0,l,_,h=>by
  cases l with
  | nil=>simp
  | cons a r=>have:=h a (by simp);omega
 | n+1,l,hn,h=>by
  have e:=JZ n (l.erase (n:Int)) (hn.erase _) (λx c=>by
   have b:=(hn.mem_erase_iff).1 c;have:=h x b.2;have:=b.1;omega)
  have d:l.length<=(l.erase (n:Int)).length+1:=by
   by_cases hm:(n:Int)∈l
   .rw [List.length_erase_of_mem hm];omega
   .rw [List.erase_of_not_mem hm];omega
  omega
theorem MOk.le{s:MS}(h:MOk s):s.m.length<=64:=by
 have:=JZ 64 (aG s.m) h.nd (λx a=>by
  obtain⟨p,b,rfl⟩:=VB.1 a;exact (h.rows p b).1)
 simpa[aG] using this
theorem MOk.wf{s:MS}(h:MOk s):∀x∈aG s.m,aF x:=by
 intro x a;obtain⟨p,b,rfl⟩:=VB.1 a;have:=(h.rows p b).1;unfold aF;omega
theorem MOk.look{s:MS}(h:MOk s){a:Int}{x:Fl}(b:aJ a s.m=some x):isAg a/\isT x.t:=h.rows _ (iv b)
theorem MOk.new{lag:Int}(a:1<=lag)(c:lag<=1099511627776):MOk (MS.new lag):=
 ⟨a,c,⟨by simp[MS.new],by simp[MS.new]⟩,Wd _,by simp only[MS.new];omega,by simp[MS.new],λp b=>by simp[MS.new]at b⟩
theorem MOk.mset{s:MS}(h:MOk s){a:Int}{x:Fl}(c:isAg a)(d:isT x.t):MOk { s with m:=mset a x s.m }:=
 ⟨h.l1,h.l2,h.n,h.v1,h.v2,oP h.nd,λp b=>by
  rcases VJ.1 b with rfl|b
  .exact⟨c,d⟩
  .exact h.rows p (rD.1 b).1⟩
theorem MOk.join{s:MS}(h:MOk s)(a t:Int):MOk (s.join a t).1:=by
 unfold MS.join
 split
 .exact h
 .rename_i b
  split
  .exact h
  .exact h.mset (by omega) (by simp only;omega)
theorem MOk.raise{s:MS}(h:MOk s)(a t:Int):MOk (s.raise a t).1:=by
 unfold MS.raise
 split
 .exact h
 .rename_i x b;have c:=h.look b
  split
  .exact h
  .refine h.mset c.1 ?_;simp only
   split <;> omega
theorem MOk.hold{s:MS}(h:MOk s)(a:Int)(b:Bool):MOk (s.hold a b).1:=by
 unfold MS.hold
 split
 .exact h
 .rename_i x c;exact h.mset (h.look c).1 (h.look c).2
theorem MOk.leave{s:MS}(h:MOk s)(a:Int):MOk (s.leave a).1:=by
 unfold MS.leave
 split
 .exact h
 .exact⟨h.l1,h.l2,h.n,h.v1,h.v2,rE h.nd,λp b=>h.rows p (rD.1 b).1⟩
theorem Ka{lim:Int}{m:FM}(hm:∀p∈m,isT p.2.t):∀(ks:List Int) (s:Int×Bool),(s.1<=4611686018427387903)->(j9 lim m ks s).1<=4611686018427387903
 | [],s,h=>h
 | k::r,s,h=>by
  refine Ka hm r _ ?_;unfold nS
  split
  .simp only
   cases hk:aJ k m with
   | none=>simp[Fl.z]
   | some x=>exact (hm _ (iv hk)).2
  .exact h
theorem MOk.tick{s:MS}(h:MOk s)(now:Int):MOk (s.tick now).1:=by
 unfold MS.tick
 split
 .exact h
 .rename_i d;have:=h.l1;have:=h.v1;have:=h.v2;have c:=Ka (lim:=now-s.lag) (λp a=>(h.rows p a).2) (sortI (aG s.m)) (now-s.lag,false) (by simp only;omega)
  refine⟨h.l1,h.l2,⟨by simp only;omega,by simp only;omega⟩,?_,?_,?_,λp a=>?_⟩
  .simp only[maxI];split <;> omega
  .simp only[maxI];split <;> omega
  .exact (congrArg List.Nodup (JY (f:=λ_ x=>ko (now-s.lag) x) (m:=s.m))).mpr h.nd
  .obtain⟨q,b,rfl⟩:=VB.1 a;exact h.rows q b
def mjT(lim:Int)(m:FM)(l:List Int):FM:=m.map λp=>(p.1,if p.1∈l then ko lim p.2 else p.2)
theorem mjT_nil(lim:Int)(m:FM):mjT lim m []=m:=by
 unfold mjT
 conv=>rhs;rw[<-List.map_id m]
 apply WS;intro p _;simp
theorem mjT_all{lim:Int}{m:FM}{l:List Int}(h:∀x∈aG m,x∈l):mjT lim m l=m.map λp=>(p.1,ko lim p.2):=by
 unfold mjT;apply WS;intro p a;rw[V1 (h p.1 (VB.2 ⟨p,a,rfl⟩))]
theorem Kb(lim:Int)(m:FM)(l:List Int):aG (mjT lim m l)=aG m:=JY (f:=λk x=>if k∈l then ko lim x else x) (m:=m)
theorem mjT_look(lim:Int)(m:FM)(l:List Int)(k:Int):aJ k (mjT lim m l)=(aJ k m).map λx=>if k∈l then ko lim x else x:=xi (f:=λk x=>if k∈l then ko lim x else x) (m:=m)
theorem mjT_step{lim:Int}{m:FM}{l:List Int}{k:Int}{x:Fl}(b:(aG m).Nodup)(c:aJ k m=some x):(mset k (ko lim x) (mjT lim m l)).Perm (mjT lim m (l++[k])):=by
 have a:k∈aG (mjT lim m l):=by
  rw[Kb];exact VB.2 ⟨_,iv c,rfl⟩
 refine (JX (by rw[Kb];exact b) a).symm.trans ?_;have:(mjT lim m l).map (λp=>if p.1=k then (k,ko lim x) else p)=mjT lim m (l++[k]):=by
  unfold mjT;rw[Wr];apply WS;intro p h;simp only[Function.comp_def,VR,VE]
  by_cases e:p.1=k
  .have f:p.2=x:=by
    have:=nA b (show (p.1,p.2)∈m from h);rw[e,c]at this;exact (Option.some.inj this).symm
   rw[V1 e,V1 (Or.inr e),f,e]
  .rw [V0 e]
   by_cases e2:p.1∈l
   .rw [V1 e2,V1 (Or.inl e2)]
   .rw [V0 e2,V0 (λd=>d.elim e2 e)]
 rw[this]
theorem Kc(lim:Int)(m:FM):∀(l r:List Int) (s:Int×Bool),j9 lim m (l++r) s=j9 lim m r (j9 lim m l s)
 | [],_,_=>rfl
 | k::l,r,s=>Kc lim m l r _
theorem Tl{l:List Int}(h:l.Nodup):(sortI l).Nodup:=(ql l).nodup_iff.2 h
theorem Kd{l:List Int}{x:Int}:x∈sortI l↔x∈l:=(ql l).mem_iff
theorem Tm{l:List Int}(h:l.Nodup){j:Nat}(c:j<l.length):l[j]∉l.take j:=by
 intro hm;obtain⟨i,hi,b⟩:=Wu hm;rw[List.getElem_take]at b;have a:i<j:=by simp at hi;omega
 exact Yt.1 h i j _ c a b
namespace Ma
theorem mt45:kA Tryz.prog 250 2 185 mO Fl.z:=og Tryz.underlying250 (by kernel_rfl)
theorem ko2:mj Tryz.prog 2 aB:=vP Tryz.underlying2
abbrev markC(mb rb:Nat)(s:MS):aE:=cellsA mb [aB s.lag,aB s.now,aB s.value,.map (some rb)] 252
abbrev mapF(rb:Nat)(m:FM):aE:=mapA aB mO rb m
section
variable {mb rb:Nat}{s:MS}{F:List aE}{H:aD}{K:KE}
theorem isTime_spec{t:Int}:bV Tryz.prog 231 #[aB t] H (.bool (decide (isT t))):=by
 refine cM 231 28 ⟨congrArg Value.bool ?_,rfl⟩;rw[Wi];simp[isT]
theorem Ke{a:Int}:bV Tryz.prog 230 #[aB a] H (.bool (decide (isAg a))):=by
 refine cM 230 28 ⟨congrArg Value.bool ?_,rfl⟩;rw[Wi];simp[isAg]
theorem Now_spec(h:aA H F)(i:Nat)(a:aW i F=markC mb rb s):bV Tryz.prog 50 #[.pointer (some ⟨mb,0,none⟩)] H (aB s.now):=by
 unfold bV;refine cM 50 28 ?_;exact⟨_,h.rd i a _,rfl,rfl⟩
theorem Value_spec(h:aA H F)(i:Nat)(a:aW i F=markC mb rb s):bV Tryz.prog 52 #[.pointer (some ⟨mb,0,none⟩)] H (aB s.value):=by
 unfold bV;refine cM 52 28 ?_;exact⟨_,h.rd i a _,rfl,rfl⟩
theorem New_spec{lag:Int}(h:aA H F)(k1:lag<1\/1099511627776<lag->K (.tuple #[.pointer none,aB 11]) H)
  (k2:1<=lag->lag<=1099511627776->∀mb rb b,aA b (markC mb rb (MS.new lag)::mapF rb []::F)->K (.tuple #[.pointer (some ⟨mb,0,none⟩),aB 0]) b) :
  CF 181 #[aB lag] H K:=by
 refine cM 181 476 ⟨λa=>k1 (by simpa using a),λa=>?_⟩
 have a:1<=lag/\lag<=1099511627776:=by simp at a;omega
 refine h.alm aB mO λrb _ h=>?_
 rw[aK (x:=0-lag)];refine h.al λmb _ h=>k2 a.1 a.2 mb rb _ ?_
 have e:(0:Int)-lag=-lag:=by omega
 rw[e]at h;exact h
theorem Of_spec{a:Int}(h:aA H (markC mb rb s::mapF rb s.m::F))
  (k:∀b,aA b (markC mb rb s::mapF rb s.m::F)->K (.tuple #[mO ((aJ a s.m).getD Fl.z),.bool (aJ a s.m).isSome]) b) :
  CF 118 #[.pointer (some ⟨mb,0,none⟩),aB a] H K:=by
 refine cM 118 284 ?_;refine h.al λ_ _ h=>?_;refine⟨_,Ra2,?_⟩
 refine⟨_,_,_,_,_,h.mp_get mt45 ko2 2 rfl,?_⟩
 repeat (first|refine h.al λ_ _ h=>?_|refine St3 h λ_ h=>?_|refine⟨_,_,_,_,Rs3,?_⟩)
 exact k _ h.tl.tl
theorem Join_spec{a t:Int}(h:aA H (markC mb rb s::mapF rb s.m::F))
  (k:∀d,aA d (markC mb rb (s.join a t).1::mapF rb (s.join a t).1.m::F)->K (aB (s.join a t).2) d) :
  CF 146 #[.pointer (some ⟨mb,0,none⟩),aB a,aB t] H K:=by
 refine cM 146 30546716 ?_;refine⟨_,Ke,_,λ_=>isTime_spec,λb=>?_,λb=>?_⟩
 .have e:s.join a t=(s,11):=V1 (by simp only[VN,VY,V8]at b;exact b);rw[e]at k;exact k _ h
 have f:¬(¬isAg a\/¬isT t):=by simpa using b
 refine⟨_,Ra1,?_⟩;refine⟨_,_,_,_,_,h.mp_get mt45 ko2 1 rfl,?_⟩;refine h.al λ_ _ h=>?_;refine St1 h λ_ h=>?_
 cases hl:aJ a s.m with
 | some x=>
  have e:s.join a t=(s,18):=by unfold MS.join;rw[V0 f,hl]
  rw[e]at k;exact⟨λ_=>k _ h.tl,λc=>by cases c⟩
 | none=>
  have e:s.join a t=({ s with m:=mset a ⟨t,false,false,false⟩ s.m },0):=by unfold MS.join;rw[V0 f,hl]
  rw[e]at k;refine⟨λc=>(by cases c),λ_=>?_⟩
  refine⟨_,Ra2,?_⟩;exact h.mp_update (α:=Fl) (v:=⟨t,false,false,false⟩) mt45 ko2 2 rfl λd h=>k _ h.tl
theorem Leave_spec{a:Int}(h:aA H (markC mb rb s::mapF rb s.m::F))
  (k:∀c,aA c (markC mb rb (s.leave a).1::mapF rb (s.leave a).1.m::F)->K (aB (s.leave a).2) c) :
  CF 144 #[.pointer (some ⟨mb,0,none⟩),aB a] H K:=by
 refine cM 144 1186588 ?_;refine⟨_,Ra1,?_⟩;refine⟨_,_,_,_,_,h.mp_get mt45 ko2 1 rfl,?_⟩;refine h.al λ_ _ h=>?_;refine St1 h λ_ h=>?_
 cases hl:aJ a s.m with
 | none=>
  have e:s.leave a=(s,19):=by unfold MS.leave;rw[hl]
  rw[e]at k;exact⟨λ_=>k _ h.tl,λb=>by cases b⟩
 | some x=>
  have e:s.leave a=({ s with m:=bT a s.m },0):=by unfold MS.leave;rw[hl]
  rw[e]at k;refine⟨λb=>(by cases b),λ_=>?_⟩
  refine⟨_,Ra2,?_⟩;exact h.mp_delete mt45 ko2 2 rfl λc h=>k _ h.tl
theorem Clone_spec(h:aA H (markC mb rb s::mapF rb s.m::F))
  (k:∀b a c,aA c (markC b a s::mapF a s.m::markC mb rb s::mapF rb s.m::F)->K (.pointer (some ⟨b,0,none⟩)) c) :
  CF 59 #[.pointer (some ⟨mb,0,none⟩)] H K:=by
 refine cM 59 4380 ?_;refine⟨_,_,_,_,h.q 0,?_⟩
 repeat (first|refine h.al λ_ _ h=>?_|refine⟨_,Ra2,?_⟩|refine St2 h λ_ h=>?_)
 refine Gj h 2 rfl λc h _=>⟨_,rfl,?_⟩
 refine h.st 1 rfl rfl λ_ h=>?_
 exact k _ _ _ (h.o [1,0,2,3] 4)
theorem AV{a:Int}{f:FuncId}{cap:Os}(c:bJ f X.calls=true)(h:aA H (markC mb rb s::mapF rb s.m::F))
  (k1:aJ a s.m=none->∀i,aA i (markC mb rb s::mapF rb s.m::F)->K (aB 19) i)
  (hb:∀x,aJ a s.m=some x->∀b y,aA y (cellsA b (encF x) 185::markC mb rb s::mapF rb s.m::F)->
   CF f ⟨(.pointer (some ⟨b,0,none⟩))::cap⟩ y λu j=>(∃r:Int,u=aB r/\r≠0/\K (aB r) j)\/
    (u=aB 0/\∃d t,aA j (cellsA b (encF d) 185::markC mb rb s::mapF rb s.m::t)/\∀w,aA w (markC mb rb s::mapF rb (mset a d s.m)::t)->K (aB 0) w)) :
  CF 151 #[.pointer (some ⟨mb,0,none⟩),aB a,.func (.func f) #[] ⟨cap⟩] H K:=by
 refine cM 151 298982172 ?_;refine⟨_,Ra1,?_⟩;have e:=h.mp_get mt45 ko2 1 rfl (x:=a)
 cases hm:aJ a s.m with
 | none=>
  rw[hm]at e;refine⟨_,_,_,_,_,e,?_⟩;refine h.al λ_ _ h=>?_;refine St1 h λ_ h=>?_
  exact⟨λ_=>k1 hm _ h.tl,λc=>by cases c⟩
 | some x=>
  rw[hm]at e;refine⟨_,_,_,_,_,e,?_⟩;refine h.al λ_ _ h=>?_;refine St1 h λ_ h=>?_
  refine⟨λc=>(by cases c),λ_=>⟨c,(hb x hm _ _ h).mono λu j B=>?_⟩⟩
  rcases B with ⟨r,rfl,A,n⟩|⟨rfl,d,t,k,n⟩
  .exact⟨r,rfl,λ_=>n,λc=>V2 (by simpa using c) A⟩
  .refine⟨0,rfl,λc=>by simp at c,λ_=>?_⟩
   refine⟨_,k.r 1,_,_,_,_,k.q 0,?_⟩;exact k.mp_update (α:=Fl) (v:=d) mt45 ko2 2 rfl λi h=>n _ h.tl
theorem Raise_spec{a t:Int}(h:aA H (markC mb rb s::mapF rb s.m::F))
  (k:∀f,aA f (markC mb rb (s.raise a t).1::mapF rb (s.raise a t).1.m::F)->K (aB (s.raise a t).2) f) :
  CF 157 #[.pointer (some ⟨mb,0,none⟩),aB a,aB t] H K:=by
 refine cM 157 28 ?_;refine h.al λc _ h=>?_
 refine AV (F:=cellsA c [aB t] 2::F) (by kernel_rfl) (h.o [1,2,0] 3) (λn f h=>⟨_,rfl,?_⟩) λx j b v h=>?_
 .have e:s.raise a t=(s,19):=by unfold MS.raise;rw[n]
  rw[e]at k;exact k _ (h.o [0,1] 3)
 refine cM 245 7452 ?_;refine⟨_,h.r 3,_,isTime_spec,λd=>?_,λd=>?_⟩
 .have i:¬isT t:=by simp only[VY,V8]at d;exact d
  have e:s.raise a t=(s,11):=by unfold MS.raise;rw[j];exact V1 i
  rw[e]at k;exact .inl ⟨11,rfl,by decide,_,rfl,k _ (h.o [1,2] 4)⟩
 .have i:¬¬isT t:=by simpa using d
  have e:s.raise a t=({ s with m:=mset a ⟨if t>x.t then t else x.t,x.out,x.was,x.held⟩ s.m },0):=by unfold MS.raise;rw[j];exact V0 i
  rw[e]at k;refine⟨_,h.r 0,_,h.r 3,?_⟩;refine h.st 0 rfl rfl λ_ h=>.inr ⟨rfl,⟨if t>x.t then t else x.t,x.out,x.was,x.held⟩,_,h,λu h=>⟨_,rfl,?_⟩⟩
  exact k _ (h.o [0,1] 3)
theorem Hold_spec{a:Int}{v:Bool}(h:aA H (markC mb rb s::mapF rb s.m::F))
  (k:∀d,aA d (markC mb rb (s.hold a v).1::mapF rb (s.hold a v).1.m::F)->K (aB (s.hold a v).2) d) :
  CF 68 #[.pointer (some ⟨mb,0,none⟩),aB a,.bool v] H K:=by
 refine cM 68 28 ?_;refine h.al λc _ h=>?_
 refine AV (F:=cellsA c [.bool v] 4::F) (by kernel_rfl) (h.o [1,2,0] 3) (λf d h=>⟨_,rfl,?_⟩) λx i b n h=>?_
 .have e:s.hold a v=(s,19):=by unfold MS.hold;rw[f]
  rw[e]at k;exact k _ (h.o [0,1] 3)
 refine cM 152 284 ?_;have e:s.hold a v=({ s with m:=mset a ⟨x.t,x.out,x.was,v⟩ s.m },0):=by unfold MS.hold;rw[i]
 rw[e]at k;refine⟨_,h.r 3,?_⟩;refine h.st 0 rfl rfl λ_ h=>.inr ⟨rfl,⟨x.t,x.out,x.was,v⟩,_,h,λj h=>⟨_,rfl,?_⟩⟩
 exact k _ (h.o [0,1] 3)
end
section
variable {mb rb:Nat}{s:MS}{F:List aE}{H:aD}{K:KE}
theorem All_spec(h:aA H F)(k:∀c0 a,aA a (cellsA c0 [.pointer (some ⟨mb,0,none⟩)] 140::F)->K (.func (.func 295) #[] #[.pointer (some ⟨c0,0,none⟩)]) a) :
  CF 246 #[.pointer (some ⟨mb,0,none⟩)] H K:=by
 refine cM 246 28 ?_;refine h.al λ_ _ h=>?_
 exact k _ _ h
abbrev dz(s:MS):List Int:=sortI (aG s.m)
abbrev atF(s:MS)(a:Int):Fl:=(aJ a s.m).getD Fl.z
theorem ks_len:(dz s).length=s.m.length:=by simp[dz,vR,aG]
theorem All1_spec{l c0:Nat}(ok:MOk s)(A:Nat->aE)(I:aE)(B:aE)
  (h:aA H (markC mb rb s::mapF rb s.m::B::cellsA c0 [.pointer (some ⟨mb,0,none⟩)] 140::F))
  (D:∀G b,aA b (markC mb rb s::mapF rb s.m::B::G)->aA b (A 0::G))
  (R:∀j (O:j<(dz s).length) (G:List aE) (y:aD) (C:KE),aA y (A j::G)->(∀e,aA e (A (j+1)::G)->C (.bool true) e)->(∀e,aA e (I::G)->C (.bool false) e)->
   fL Tryz.prog l [aB (dz s)[j],mO (atF s (dz s)[j])] y C)
  (k:∀b,aA b (A (dz s).length::cellsA c0 [.pointer (some ⟨mb,0,none⟩)] 140::F)->K (.tuple #[]) b)
  (M:∀b,aA b (I::cellsA c0 [.pointer (some ⟨mb,0,none⟩)] 140::F)->K (.tuple #[]) b) :
  CF 295 #[.func (.yield l) #[] #[],.pointer (some ⟨c0,0,none⟩)] H K:=by
 refine cN 295 0x11561239925113994 [[(15,sI)]] ?_;have Q:=ok.le;have P:(dz s).length=s.m.length:=ks_len;refine⟨_,Ra4,?_⟩;refine⟨_,Ra4,?_⟩;refine Gj h 1 rfl λy J _=>⟨_,rfl,?_⟩
 refine Pm ⟨_,_,rfl,?_⟩;refine Pn J 0 rfl ok.wf (by omega) λa c e w _=>⟨_,_,_,rfl,?_⟩
 have w:=D _ _ (w.o [2,3,4,0,1] 5);refine⟨λt b=>∃j:Nat,t=j/\j<=(dz s).length/\aA b (A j::slA 2 1 a s.m.length c ((dz s).map aB)::mapF H.size s.m::cellsA c0 [.pointer (some ⟨mb,0,none⟩)] 140::F),
  λt _=>(dz s).length-t.toNat,⟨0,rfl,VX _,w⟩,?_⟩
 rintro t L ⟨j,rfl,O,i⟩;refine⟨λE=>?_,λE=>?_⟩
 .have d:j<(dz s).length:=by have:=V4 E;omega
  have f:=(i.sl_rd 1 rfl).at d;have n:=i.mp_get1 mt45 ko2 2 rfl (x:=(dz s)[j]);refine⟨⟨by omega,by omega⟩,_,_,f.1,_,f.2,_,_,_,_,n,?_⟩;refine R j d _ L _ i (λN u=>⟨true,rfl,λv=>(by cases v),λ_=>?_⟩) λN u=>⟨false,rfl,λ_=>?_,λv=>(by cases v)⟩
  .conv=>whnf
   rw[aK];exact⟨⟨j+1,rfl,d,u⟩,by simp only[VD];omega⟩
  .exact M _ (u.o [0,3] 4)
 .obtain rfl:j=(dz s).length:=by have:=V5 E;omega
  exact k _ (i.o [0,3] 4)
theorem Tn{b c0 c1 c2 c3:Nat}{x:Fl}{now least:Int}{a:Bool}(n:1<=s.lag/\s.lag<=1099511627776)(m:isT now)
  (h:aA H (cellsA b (encF x) 185::markC mb rb s::cellsA c0 [aB now] 2::cellsA c1 [.pointer (some ⟨mb,0,none⟩)] 140::cellsA c2 [.bool a] 4::cellsA c3 [aB least] 2::F))
  (k:∀i,aA i (cellsA b (encF (ko (now-s.lag) x)) 185::markC mb rb s::cellsA c0 [aB now] 2::cellsA c1 [.pointer (some ⟨mb,0,none⟩)] 140::cellsA c2 [.bool (nS (now-s.lag) (least,a) x).2] 4::cellsA c3 [aB (nS (now-s.lag) (least,a) x).1] 2::F)->K (aB 0) i) :
  CF 247 #[.pointer (some ⟨b,0,none⟩),.pointer (some ⟨c0,0,none⟩),.pointer (some ⟨c1,0,none⟩),.pointer (some ⟨c2,0,none⟩),.pointer (some ⟨c3,0,none⟩)] H K:=by
 refine OA ?_;refine⟨_,h.r 0,_,h.r 2,_,h.r 3,cZ ⟨_,h.r 1,?_⟩⟩;dsimp only;rw[aK (x:=now-s.lag)];refine h.st 0 rfl rfl λ_ h=>?_
 refine⟨_,h.r 0,λ_=>trivial,_,λ_=>h.r 0,?_⟩
 refine h.st 0 rfl rfl λ_ h=>?_
 refine⟨_,h.r 0,λ_=>trivial,_,λ_=>h.r 0,_,λ_=>h.r 4,λ_=>trivial,_,λ_=>h.r 0,_,λ_=>h.r 5,?_⟩
 intro j f;refine⟨λc=>?_,λc=>?_⟩
 .have e:nS (now-s.lag) (least,a) x=(x.t,true):=V1 (by
   simp only[V7,VN,VY,V8,V6]at c;exact⟨c.1.1,c.1.2,c.2⟩)
  rw[e]at k;refine⟨_,h.r 0,?_⟩;refine h.st 5 rfl rfl λ_ h=>h.st 4 rfl rfl λ_ h=>f _ ?_
  exact k _ h
 .have e:nS (now-s.lag) (least,a) x=(least,a):=V0 (λd=>by
   rw[<-Bool.not_eq_true]at c;apply c;simp only[V7,VN,VY,V8,V6];exact⟨⟨d.1,d.2.1⟩,d.2.2⟩)
  rw[e]at k;exact f _ (k _ h)
def tkA(mb rb b b1 lb fb l:Nat)(R:Loop)(s:MS)(now:Int)(j:Nat):aE:=
 star [markC mb rb { s with now:=now },mapF rb (mjT (now-s.lag) s.m ((dz s).take j)),cellsA b [.pointer (some ⟨mb,0,none⟩)] 140,cellsA b1 [aB now] 2,
  cellsA lb [aB (j9 (now-s.lag) s.m ((dz s).take j) (now-s.lag,false)).1] 2,cellsA fb [.bool (j9 (now-s.lag) s.m ((dz s).take j) (now-s.lag,false)).2] 4,pt l (.loop R)]
theorem To{b b1 e fb j:Nat}{now:Int}{n w:aD}{R:Loop}{G:List aE}{u:KE}(ok:MOk s)(y:isT now)(t:j<(dz s).length)
  (h:aA w (tkA mb rb b b1 e fb (n.size+1) R s now j::G)) (D:∀v,aA v (tkA mb rb b b1 e fb (n.size+1) R s now (j+1)::G)->u (.bool true) v) :
  zg.y1 b b1 e 0 fb 0 n R [aB (dz s)[j],mO (atF s (dz s)[j])] w u:=by
 have h:=h.open;unfold zg.y1;refine⟨_,_,_,_,_,rfl,h.getO 6 rfl,h.getO 6 rfl,h.stl 6 rfl λH h=>⟨_,h.r 2,?_⟩⟩
 obtain⟨x,i⟩:∃x,aJ (dz s)[j] s.m=some x:=by
  cases hm:aJ (dz s)[j] s.m with
  | some x=>exact⟨x,rfl⟩
  | none=>exact V2 (Kd.1 (VF t)) (fw.1 hm)
 have k:=Tm (Tl ok.nd) t;have a:aJ (dz s)[j] (mjT (now-s.lag) s.m ((dz s).take j))=some x:=by rw[mjT_look,i];simp[k]
 have A:(dz s).take (j+1)=(dz s).take j++[(dz s)[j]]:=Wj t;refine AV (s:={ s with now:=now,m:=mjT (now-s.lag) s.m ((dz s).take j) }) (f:=247) (by kernel_rfl) h (λd=>by rw[a]at d;cases d) λB c bb I h=>?_
 obtain rfl:x=B:=by rw[a]at c;exact Option.some.inj c
 refine Tn (s:={ s with now:=now }) ⟨ok.l1,ok.l2⟩ y (h.o [0,1,4,3,6,5,2,7] 8) λF h=>.inr ⟨rfl,ko (now-s.lag) x,_,h.o [0,1,6,2,3,4,5,7] 8,λE h=>⟨_,rfl,?_⟩⟩
 refine⟨h.getO 6 rfl,D _ ?_⟩;have h:=h.setO 6 rfl (.loop R);unfold tkA;refine aA.shut [_,_,_,_,_,_,_] ?_;have em:mapF rb (mset (dz s)[j] (ko (now-s.lag) x) (mjT (now-s.lag) s.m ((dz s).take j)))=mapF rb (mjT (now-s.lag) s.m ((dz s).take j++[(dz s)[j]])):=nB (mjT_step ok.nd i);rw[A,Kc,<-em];have C:j9 (now-s.lag) s.m [(dz s)[j]] (j9 (now-s.lag) s.m ((dz s).take j) (now-s.lag,false))=nS (now-s.lag) (j9 (now-s.lag) s.m ((dz s).take j) (now-s.lag,false)) x:=by
  show nS _ _ ((aJ _ s.m).getD Fl.z)=_;rw[i];rfl
 rw[C];exact h.o [0,1,3,2,5,4,6] 7
theorem Tick_spec{now:Int}(ok:MOk s)(h:aA H (markC mb rb s::mapF rb s.m::F))
  (k:∀c,aA c (markC mb rb (s.tick now).1::mapF rb (s.tick now).1.m::F)->K (aB (s.tick now).2) c) :
  CF 158 #[.pointer (some ⟨mb,0,none⟩),aB now] H K:=by
 refine OJ ?_;refine h.al λb _ h=>h.al λb1 _ h=>?_
 refine⟨_,h.r 0,_,isTime_spec,_,λ_=>h.r 0,_,λ_=>h.rd (1) rfl _,λ_=>trivial,_,λ_=>h.r 2,λd=>?_,λd=>?_⟩
 .have e:s.tick now=(s,11):=V1 (by simp only[VN,VY,V8,V6]at d;exact d);rw[e]at k;exact k _ h.tl.tl
 have f:¬(¬isT now\/now<s.now):=by
  simp only[VK,Wm,V8,V6]at d;exact λJ=>J.elim (λn=>n d.1) d.2
 have w:isT now:=by
  rcases Classical.em (isT now) with h|h
  .exact h
  .exact V2 (Or.inl h) f
 have e:s.tick now=({ s with now:=now,value:=maxI s.value (j9 (now-s.lag) s.m (sortI (aG s.m)) (now-s.lag,false)).1,m:=s.m.map λp=>(p.1,ko (now-s.lag) p.2) },0):=V0 f
 rw[e]at k;have E:=ok.l1;have D:=ok.l2;refine⟨_,h.r 1,_,h.r 0,cZ (h.st 2 rfl rfl λ_ h=>?_)⟩
 intro y C;have fin:∀a fb c,aA c (cellsA b1 [aB now] 2::cellsA b [.pointer (some ⟨mb,0,none⟩)] 140::cellsA a [aB (now-s.lag)] 2::cellsA fb [.bool false] 4::markC mb rb { s with now:=now }::mapF rb s.m::F)->y a 0 fb 0 c:=by
  intro a fb c h;refine C _ _ _ _ _ ?_;refine⟨_,h.r 1,All_spec h λc0 t h=>⟨_,_,rfl,rfl,λR i v L=>?_⟩⟩
  have h:=h.rng R;have h:aA _ (markC mb rb { s with now:=now }::mapF rb s.m::star [cellsA b [.pointer (some ⟨mb,0,none⟩)] 140,cellsA b1 [aB now] 2,cellsA a [aB (now-s.lag)] 2,cellsA fb [.bool false] 4,pt (t.size+1) (.loop R)]::cellsA c0 [.pointer (some ⟨mb,0,none⟩)] 140::pt t.size (.deferred (some []))::F):=
   (aA.shut [_,_,_,_,_] (h.o [4,3,5,6,0,7,8,2,1] 9)).o [1,2,0] 3
  refine All1_spec (s:={ s with now:=now }) ⟨ok.l1,ok.l2,w,ok.v1,ok.v2,ok.nd,ok.rows⟩ (λj=>tkA mb rb b b1 a fb (t.size+1) R s now j) (pur False) _ h (λG c h=>?_)
   (λj I G P Q n M _=>L _ _ _ (To ok w I n M)) (λB u=>?_) (λB u=>(aA.consP u).1.elim)
  .unfold tkA;rw[Yc,mjT_nil];refine aA.shut [_,_,_,_,_,_,_] ?_;exact ((h.o [2,0,1] 3).open).o [5,6,0,1,2,3,4] 7
  .have h:=aA.open (A:=[_,_,_,_,_,_,_]) u;have e1:(dz { s with now:=now }).length=(dz s).length:=rfl;rw[e1,VZ (VA _),mjT_all (λx N=>Kd.2 N)]at h
   refine⟨.ready,none,by decide,by rw[nC i v];exact h.getO 6 rfl,h.stl 6 rfl λO h=>⟨rfl,?_⟩⟩
   refine⟨_,h.r 2,_,h.r 2,cZ ⟨_,h.r 0,_,h.r 4,cZ (h.st 0 rfl rfl λ_ h=>⟨h.getO 8 rfl,?_⟩)⟩⟩
   have h:=h.setO 8 rfl (.deferred none);exact k _ (h.o [0,1] 9)
 refine⟨_,h.r 0,_,h.r 1,cZ ⟨_,h.r 2,?_⟩⟩;dsimp only;rw[aK (x:=now-s.lag)];refine⟨h.al λa _ h=>⟨h.r 3,h.r 2,h.r 1,h.al λfb _ h=>⟨h.r 4,h.r 3,h.r 2,h.st 1 rfl rfl λ_ h=>h.st 0 rfl rfl λ_ h=>?_⟩⟩,
  h.al λfb _ h=>⟨h.r 3,h.r 2,h.r 1,h.al λa _ h=>⟨h.r 4,h.r 3,h.r 2,h.st 0 rfl rfl λ_ h=>h.st 1 rfl rfl λ_ h=>?_⟩⟩⟩
 .exact fin a fb _ (h.o [2,3,1,0] 4)
 .exact fin a fb _ (h.o [2,3,0,1] 4)
end
section
variable {mb rb sb:Nat}{s:MS}{F:List aE}{H:aD}{K:KE}
theorem Set_spec{ag:FM}{ab:Nat}{now value:Int}(y:isT now)(L:1<=s.lag/\s.lag<=1099511627776)(M:now-s.lag<=value/\value<=now)(C:∀p∈ag,isAg p.1/\isT p.2.t)
  (h:aA H (markC mb rb s::mapF rb s.m::mapF ab ag::F))
  (k:∀d c,aA c (markC mb d ⟨s.lag,now,value,ag⟩::mapF d ag::mapF ab ag::F)->K (aB 0) c) :
  CF 204 #[.pointer (some ⟨mb,0,none⟩),aB now,aB value,.map (some ab)] H K:=by
 refine cN 204 0x1d121561239951d41c [[]] ?_;have e1:i64.wrap (now-s.lag)=now-s.lag:=aK;refine⟨_,isTime_spec,λ_=>trivial,_,λ_=>h.r 0,?_⟩
 dsimp only
 conv=>whnf
 rw[e1,VS y,Wp (show ¬value<now-s.lag by omega),Wp (show ¬now<value by omega)];refine⟨λa=>(by cases a),λ_=>?_⟩
 refine h.alm aB mO λb _ h=>?_
 refine h.rg_new mt45 3 rfl λi J h=>⟨i,rfl,?_⟩
 refine⟨λc=>∃dn:FM,aA c (mapF b dn::markC mb rb s::mapF rb s.m::kQ aB mO i ab ag dn::F),λc=>ag.length-oR c i,⟨[],h⟩,?_⟩
 rintro E ⟨dn,h⟩;obtain⟨A,D⟩:=h.rg_count 3 rfl;refine h.rg_next 3 rfl (λB=>Or.inl ⟨rfl,λa=>(by cases a),λ_=>?_⟩) λp j w G h=>Or.inr ⟨_,_,rfl,λ_=>?_,λa=>(by cases a)⟩
 .have h:=h.rg_map 3 rfl;refine h.st 1 rfl rfl λ_ h=>h.st 1 rfl rfl λ_ h=>h.st 1 rfl rfl λ_ h=>k b _ ?_
  have em:mapF b dn=mapF b ag:=nB B;have h:=h.o [1,0,3] 4;simp only[ordT,aW,rA,put,em]at h;exact h
 .have f:=aA.rg_entry (P:=Tryz.prog) h 3 rfl;obtain⟨u,e⟩:=h.rg_count 3 rfl;rw[V3,Wo]at u e;refine⟨_,_,_,_,_,f,?_⟩;refine h.al λb2 _ h=>?_
  refine h.st 0 rfl rfl λ_ h=>?_
  have x:=C p j;refine⟨_,Ke,_,λ_=>h.r 0,_,λ_=>isTime_spec,?_⟩
  rw[VS x.1,VS x.2];refine⟨λa=>(by cases a),λ_=>⟨_,_,_,_,h.q 0,?_⟩⟩
  refine h.mp_update (α:=Fl) (v:=p.2) mt45 ko2 1 rfl λI h=>⟨⟨dn++[p],?_⟩,?_⟩
  .have em:mapF b (mset p.1 p.2 dn)=mapF b (dn++[p]):=nB (by
    unfold mset;rw[kP (fw.2 w)];exact (List.perm_append_singleton p dn).symm)
   have h:=h.tl;simp only[put,em]at h;exact h
  .obtain⟨n,_⟩:=h.rg_count 4 rfl;rw[V3,Wo]at n;simp only;omega
end
end Ma
theorem Tp{P:Program}{t e:TypeId}{n:Nat}{f:Nat->Int}{i:Int}(h:P.underlying t=some (.array n e))(b:∀w,(Go.sizeOf e).run P w=.ok 1 w)(d:∀w,(Go.isAgg e).run P w=.ok false w)(h0:0<=i)(c:i<n) :
  md P (Instr.index t (.agg ⟨bX .u64 f n 0⟩) (aB i)) (.int .u64 (f i.toNat)):=by
 intro w;have a:=ug .u64 f n 0 i.toNat (by omega);rw[fO]at a;simp only[Instr.index,asIntOf,Sem.run_bind,Sem.run_pure,Result.andThen_ok,ft h];rw[V1 ⟨h0,c⟩];simp only[Sem.run_bind,b,Result.andThen_ok,Wz,part,d];simp[a]
def mP:Nat->RS->List (Nat×Nat)×RS
 | 0,s=>([],s)
 | n+1,s=>(((bM s).1,(bM (bM s).2).1)::(mP n (bM (bM s).2).2).1,(mP n (bM (bM s).2).2).2)
def pB(prev:Option Nat)(p:Nat):Bool:=match prev with|some x=>decide (p<=x)|none=>false
def mQ:List (Nat×Nat)->Option Nat->(Nat->Int)->Option (Nat->Int)
 | [],_,h=>some h
 | (p,q)::r,prev,h=>if pB prev p=true\/65<=p then none else if q=0\/9223372036854775807<q then none else mQ r (some p) (fe h p q)
def qH(ps:List (Nat×Nat))(q:Nat):Option Nat:=if q=0 then none else some (ps.getD (q-1) (0,0)).1
def sD(n0 n1 n2:Nat)(lo hi:Int)(t:List Int)(ps:List (Nat×Nat)):Cl×Int:=
 if 9223372036854775807<n0\/9223372036854775807<n1\/9223372036854775807<n2 then (Cl.z,10) else
 if t.length≠16 then (Cl.z,10) else
 match mQ ps none Z0 with
 | none=>(Cl.z,10)
 | some h=>if gh ⟨n0,jo t,lo,hi,n1,n2,h⟩ then (⟨n0,jo t,lo,hi,n1,n2,h⟩,0) else (Cl.z,10)
def kr(bs:List Int):Cl×Int:=
 let a:=bM ⟨0,bs⟩
 let b:=bM a.2
 let c:=bM b.2
 let lo:=dE c.2
 let hi:=dE lo.2
 let t:=aY 16 hi.2
 let n:=bY 65 t.2
 let p:=mP n.1.toNat n.2
 if (dF p.2).e≠0 then (Cl.z,(dF p.2).e) else sD a.1 b.1 c.1 lo.1 hi.1 t.1 p.1
theorem xj{s:RS}(h:aH s.bs):aH (dE s).2.bs:=gL h
theorem Kf(s:RS):(dE s).2.bs.length<=s.bs.length:=jQ s
theorem Kg:∀{l:List (Nat×Nat)} {a:Option Nat} {h g:Nat->Int},wfH h->mQ l a h=some g->wfH g
 | [],_,h,g,hw,e=>by cases e;exact hw
 | (p,q)::r,a,h,g,hw,e=>by
  unfold mQ at e
  split at e
  .cases e
  .split at e
   .cases e
   .rename_i c b;refine Kg (l:=r) ?_ e;intro i hi;unfold fe
    split
    .unfold aF;omega
    .exact hw i hi
theorem Tq{n0 n1 n2:Nat}{lo hi:Int}{t:List Int}{ps:List (Nat×Nat)}(hb:aH t)(b:aF lo)(a:aF hi):WC (sD n0 n1 n2 lo hi t ps).1:=by
 unfold sD
 split
 .exact WC.z
 .split
  .exact WC.z
  .split
   .exact WC.z
   .rename_i d _ g c
    split
    .exact⟨by unfold aF;dsimp only;omega,Ja t hb,b,a,by unfold aF;dsimp only;omega,by unfold aF;dsimp only;omega,Kg uh c⟩
    .exact WC.z
theorem Tr{bs:List Int}(hb:aH bs):WC (kr bs).1:=by
 unfold kr;dsimp only
 split
 .exact WC.z
 .exact Tq (lJ (xj (xj (gL (gL (gL (s:=⟨0,bs⟩) hb)))))).2 (rT _) (rT _)
theorem Ts{bs:List Int}(h:(kr bs).2=0):gh (kr bs).1=true:=by
 unfold kr at h ⊢;dsimp only at h ⊢
 split
 .rename_i a;rw[V1 a]at h;exact V2 h a
 .rename_i a;rw[V0 a]at h;unfold sD at h ⊢
  split
  .rename_i b;rw[V1 b]at h;cases h
  .rename_i b;rw[V0 b]at h
   split
   .rename_i c;rw[V1 c]at h;cases h
   .rename_i c;rw[V0 c]at h
    split
    .rename_i d;rw[d]at h;cases h
    .rename_i g d;rw[d]at h;dsimp only at h
     split
     .assumption
     .rename_i e;rw[V0 e]at h;cases h
theorem AW{s:RS}{m:Int}(h:aH s.bs)(hm:0<=m):0<=(bY m s).1/\(bY m s).1<=m:=by
 unfold bY
 split
 .exact⟨Wd _,hm⟩
 .split
  .split
   .exact⟨Wd _,hm⟩
   .simp only[]at *;omega
  .exact⟨Wd _,hm⟩
  .exact⟨Wd _,hm⟩
theorem sl279:SlT Tryz.prog 487 488 2 16:=iP (by kernel_rfl)
abbrev encP(p:Nat×Nat):Os:=[U64 p.1,U64 p.2]
theorem xk(p:Nat×Nat):(encP p).length=2:=rfl
def f3(a b c:Nat):Nat->Int:=λi=>match i with|0=>(a:Int)|1=>(b:Int)|_=>(c:Int)
section
variable {F L:List aE}{H:aD}{K:KE}
theorem idx278{a b c:Nat}{i:Int}(h0:0<=i)(d:i<3):md Tryz.prog (Instr.index 486 (.agg #[U64 a,U64 b,U64 c]) (aC i)) (.int .u64 (f3 a b c i.toNat)):=
 Tp (f:=f3 a b c) (n:=3) Tryz.underlying486 Tryz.sizeOf56 Tryz.isAgg56 h0 (by omega)
theorem Tt{a:KQ}{c n:Nat}{bs:List Int}(hn:bs.length=n)(hb:aH bs)(h:aA H F)(ha:∀H,aA H F->aP H a (bs.map U8))(hl:n<=1000000000)
  (k:∀C,aA C F->K (.tuple #[aggC (kr bs).1,aC (kr bs).2]) C):CF 263 #[.slice a n c] H K:=by
 subst hn;refine O7 ?_;unfold kr at k;dsimp only at k;refine h.al λb _ h=>?_
 refine rR (bs:=bs) h (λH h=>ha H h.tl) (by omega) λrb H1 h=>⟨_,rfl,?_⟩
 have U:aH (⟨0,bs⟩:RS).bs:=hb;have hL0:(⟨0,bs⟩:RS).bs.length<=1000000000:=hl;refine nK h U (by omega) λH2 h=>⟨_,rfl,?_⟩
 have Q:=gL U;have hL1:=jQ (⟨0,bs⟩:RS);generalize bM ⟨0,bs⟩=r1 at *;refine nK h Q (by omega) λH3 h=>⟨_,rfl,?_⟩
 have T:=gL Q;have hL2:=jQ r1.2;generalize bM r1.2=r2 at *;refine nK h T (by omega) λH4 h=>⟨_,rfl,?_⟩
 have S:=gL T;have hL3:=jQ r2.2;generalize bM r2.2=r3 at *;refine h.al λb1 _ h=>?_
 refine h.sta 0 rfl rfl λH6 h=>?_
 have h:=h.o [1,0] 2;refine wt h S (by omega) λH7 h=>⟨_,rfl,?_⟩
 have R:=xj S;have hL4:=Kf r3.2;have h2:aF (dE r3.2).1:=rT _;generalize dE r3.2=r4 at *;refine wt h R (by omega) λH8 h=>⟨_,rfl,?_⟩
 have N:=xj R;have u8:=Kf r4.2;have l0:aF (dE r4.2).1:=rT _;generalize dE r4.2=r5 at *;refine nJ (most:=16) h N (by omega) (by decide) λH9 h=>⟨_,rfl,?_⟩
 have u:=(lJ (m:=16) N);have y2:=(mC r5.2 16);generalize aY 16 r5.2=r6 at *;refine tP (most:=65) h u.1 (by omega) (by decide) λr8 h=>⟨_,rfl,?_⟩
 have h5:=rU (m:=65) u.1;have hL7:=rV r6.2 65;have h9:=AW (m:=65) u.1 (by decide);generalize bY 65 r6.2=r7 at *;refine⟨λpa pn pc i C=>∃(j:Nat) (d:List (Nat×Nat)) (s:RS),i=j/\(j:Int)<=r7.1/\pn=d.length/\d.length=j/\aH s.bs/\s.bs.length<=1000000000/\
   mP r7.1.toNat r7.2=(d++(mP (r7.1.toNat-j) s).1,(mP (r7.1.toNat-j) s).2)/\
   aA C (crdA rb s::slA 488 2 pa d.length pc (flat encP d)::cellsA b1 [U64 r1.1,U64 r2.1,U64 r3.1] 486::cellsA b (dx Cl.z) 161::F),
  λ_ _ _ i _=>(r7.1-i).toNat,⟨0,[],r7.2,rfl,h9.1,rfl,rfl,h5,by omega,rfl,?_⟩,?_⟩
 .exact ((h.sl_nil 488 2).o [1,0] 2)
 rintro pa pn pc i H11 ⟨j,d,s,rfl,hj,rfl,j3,w,hsl,e,h⟩;refine⟨λhc=>?_,λhc=>?_⟩
 .have f:=V4 hc;have hu1:=wq w;have hu2:=wq (gL w);refine nK h w (by omega) λH12 h=>⟨_,rfl,?_⟩
  have hl1:=jQ s;refine nK h (gL w) (by omega) λH13 h=>⟨_,rfl,?_⟩
  have r9:=jQ (bM s).2;rintro b2 _ rfl rfl;refine h.append1 (ws:=encP ((bM s).1,(bM (bM s).2).1)) sl279 1 rfl rfl rfl (by omega) (by omega) λa' c' H15 h=>⟨_,_,_,rfl,?_⟩
  rw[show i64.wrap ((j:Int)+1)=((j+1:Nat):Int) by rw[aK];omega];refine⟨⟨j+1,d++[((bM s).1,(bM (bM s).2).1)],(bM (bM s).2).2,rfl,by omega,by simp,by simp[j3],gL (gL w),by omega,?_,?_⟩,?_⟩
  .rw [e,show r7.1.toNat-j=(r7.1.toNat-(j+1))+1 by omega,mP,VI];rfl
  .rw [dR,ny,V3];exact h
  .show (r7.1-((j+1:Nat):Int)).toNat<(r7.1-(j:Int)).toNat
   omega
 .have hge:=V5 hc;have j1:r7.1.toNat-j=0:=by omega
  rw[j1,mP,Wc]at e;rw[e]at k;dsimp only at k;refine wu h λH16 h=>⟨_,rfl,λhe=>?_,λhe=>?_⟩
  .rw [V1 (by simpa using he)]at k;refine h.sta 3 rfl rfl λv h=>⟨_,_,_,_,_,_,_,_,h.rda 3 rfl,k _ h.tl.tl.tl.tl⟩
  rw[V0 (by simpa using he)]at k;unfold sD at k;refine⟨_,_,_,h.rda 2 rfl,?_⟩;have h:=h.tl;refine⟨λi C=>∃t:Nat,i=t/\t<=3/\(∀q,q<t->f3 r1.1 r2.1 r3.1 q<=9223372036854775807)/\aA C (slA 488 2 pa d.length pc (flat encP d)::cellsA b1 [U64 r1.1,U64 r2.1,U64 r3.1] 486::cellsA b (dx Cl.z) 161::F),λi _=>3-i.toNat,⟨0,rfl,by omega,λ_ h=>by omega,h⟩,?_⟩
  rintro i H18 ⟨t,rfl,ht,V,h⟩;refine⟨λJ=>?_,λJ=>?_⟩
  .have f:t<3:=by have:=V4 J;omega
   refine⟨_,idx278 (by omega) (by omega),?_⟩;rw[VD];refine⟨λy=>?_,λy=>?_⟩
   .have y:=V4 y;have:9223372036854775807<r1.1\/9223372036854775807<r2.1\/9223372036854775807<r3.1:=by
     unfold f3 at y
     split at y <;> omega
    rw[V1 this]at k;refine h.sta 2 rfl rfl λv h=>⟨_,_,_,_,_,_,_,_,h.rda 2 rfl,k _ h.tl.tl.tl⟩
   .have y:=V5 y;rw[show i64.wrap ((t:Int)+1)=((t+1:Nat):Int) by rw[aK];omega];refine⟨⟨t+1,rfl,f,λq l5=>?_,h⟩,by simp only[VD];omega⟩
    rcases VV q t with h1|h1
    .exact V q h1
    .obtain rfl:q=t:=by omega
     omega
  .have:t=3:=by have:=V5 J;omega
   subst this;have g0:(r1.1:Int)<=9223372036854775807:=V 0 (by decide);have g1:(r2.1:Int)<=9223372036854775807:=V 1 (by decide);have g2:(r3.1:Int)<=9223372036854775807:=V 2 (by decide);rw[nO]at k;refine⟨by decide,_,h.r 1,by decide,_,h.r 1,by decide,_,h.r 1,?_⟩;dsimp only;rw[aK (x:=(r1.1:Int)) (by omega) g0,aK (x:=(r2.1:Int)) (by omega) g1,aK (x:=(r3.1:Int)) (by omega) g2];refine h.al λb3 _ h=>?_
   refine h.sta 0 rfl (by rw[V3,se,V3,se];rfl) λH21 h=>?_
   refine h.st 0 rfl rfl λy3 h=>?_
   refine h.st 0 rfl rfl λl6 h=>?_
   have h:aA l6 (cellsA b3 (dx ⟨r1.1,0,r4.1,r5.1,r2.1,r3.1,Z0⟩) 161::slA 488 2 pa d.length pc (flat encP d)::cellsA b1 [U64 r1.1,U64 r2.1,U64 r3.1] 486::cellsA b (dx Cl.z) 161::F):=h;refine wo u.2 h λa' c' H24 h=>⟨_,_,_,rfl,?_⟩
   refine Sr (bs:=r6.1) rfl u.2 h (λH h=>h.sl_rd 0 rfl) (by omega) (λL h3 h=>⟨_,_,_,rfl,?_⟩) (λL h3 h=>⟨_,_,_,rfl,?_⟩)
   .rw [V1 L]at k;refine h.al λb4 _ h=>?_
    refine h.sta 0 rfl rfl λW h=>⟨λ_=>?_,λZ=>by cases Z⟩
    refine h.sta 5 rfl rfl λv h=>⟨_,_,_,_,_,_,_,_,h.rda 5 rfl,k _ h.tl.tl.tl.tl.tl.tl⟩
   .rw [V0 (λhh=>hh L)]at k
    refine h.al λb4 _ h=>?_
    refine h.sta 0 rfl rfl λW h=>⟨λZ=>(by cases Z),λ_=>?_⟩
    refine⟨_,_,h.rda 0 rfl,?_⟩;refine h.st 2 rfl rfl λh4 h=>?_
    have h:aA h4 (cellsA b4 [aC (cx (jo r6.1)),.int .u64 (wlo (jo r6.1))] 157::slA 5 1 a' r6.1.length c' (r6.1.map U8)::cellsA b3 (dx ⟨r1.1,jo r6.1,r4.1,r5.1,r2.1,r3.1,Z0⟩) 161::slA 488 2 pa d.length pc (flat encP d)::cellsA b1 [U64 r1.1,U64 r2.1,U64 r3.1] 486::cellsA b (dx Cl.z) 161::F):=h;have h:=h.o [2,3,5] 6;refine⟨λi C=>∃(q:Nat) (g:Nat->Int),i=q/\q<=d.length/\wfH g/\mQ d none Z0=mQ (d.drop q) (qH d q) g/\aA C (cellsA b3 (dx ⟨r1.1,jo r6.1,r4.1,r5.1,r2.1,r3.1,g⟩) 161::slA 488 2 pa d.length pc (flat encP d)::cellsA b (dx Cl.z) 161::F),λi _=>d.length-i.toNat,
     ⟨0,Z0,rfl,VX _,uh,rfl,h⟩,?_⟩
    rintro i H30 ⟨q,g,rfl,l5,y,e2,h⟩;refine⟨λE=>?_,λE=>?_⟩
    .have f:q<d.length:=by have:=V4 E;omega
     have A:=h.sl_rd 1 rfl;rw[Wv f,mQ]at e2;refine⟨⟨by omega,by omega⟩,_,_,A.some xk (by omega) f,_,_,A.els xk f,?_⟩;refine h.al λb6 _ h=>?_
     refine h.sta 0 rfl rfl λh6 h=>?_
     have A:=h.sl_rd 2 rfl;have I:((decide (0<(q:Int)))=true)->aL h6 (aU pa) (aS pa+(i64.wrap ((q:Int)-1)).toNat*2+0)=some (.int .u64 ((d.getD (q-1) (0,0)).1:Nat)):=by
      intro h0;have h0:=V4 h0;rw[aK (x:=(q:Int)-1),show ((q:Int)-1).toNat=q-1 by omega];have P:q-1<d.length:=by omega
      have:=(A.els xk P).1;rw[Yl,List.getElem?_eq_getElem P];exact this
     refine⟨λ_=>by decide,_,λ_=>h.r 0,λh0=>by have h0:=V4 h0;rw[aK (x:=(q:Int)-1)];omega,_,_,λ_=>A.some xk (by omega) f,λ_=>by decide,_,I,λ_=>by decide,_,λ_=>h.r 0,?_⟩
     have r0:((decide (0<(q:Int))&&decide (((d[q].1:Nat):Int)<=(((d.getD (q-1) (0,0)).1:Nat):Int)))||decide (65<=((d[q].1:Nat):Int)))=(pB (qH d q) d[q].1||decide (65<=d[q].1)):=by
      unfold qH
      rcases Yx q with h0|h0
      .subst h0;rw[V1 rfl];simp[pB];omega
      .rw [nO];rw[Wi];simp only[pB,VN,V7,V6,WZ];omega
     dsimp only;rw[r0];have D:(pB (qH d q) d[q].1||decide (65<=d[q].1))=true↔(pB (qH d q) d[q].1=true\/65<=d[q].1):=by rw[VN,V6]
     refine⟨λB=>?_,λB=>?_⟩
     .rw [V1 (D.1 B)]at e2;rw[e2]at k;refine h.sta 3 rfl rfl λv h=>⟨_,_,_,_,_,_,_,_,h.rda 3 rfl,k _ h.tl.tl.tl.tl⟩
     have j2:¬(pB (qH d q) d[q].1=true\/65<=d[q].1):=λhh=>by rw[D.2 hh]at B;cases B
     rw[V0 j2]at e2;refine⟨by decide,_,h.r 0,λ_=>by decide,_,λ_=>h.r 0,λG=>?_,λG=>?_⟩
     .have:d[q].2=0\/9223372036854775807<d[q].2:=by
       simp only[VN,V6]at G;omega
      rw[V1 this]at e2;rw[e2]at k;refine h.sta 3 rfl rfl λv h=>⟨_,_,_,_,_,_,_,_,h.rda 3 rfl,k _ h.tl.tl.tl.tl⟩
     have Y:¬(d[q].2=0\/9223372036854775807<d[q].2):=by
      simp only[VK,V8]at G;omega
     rw[V0 Y]at e2;have O:d[q].1<65:=by omega
     refine⟨by decide,_,h.r 0,by decide,_,h.rd 0 rfl _,⟨by omega,by omega⟩,?_⟩;rw[aK (x:=((d[q].2:Nat):Int)),VD];have M:cv (dx ⟨r1.1,jo r6.1,r4.1,r5.1,r2.1,r3.1,g⟩) (7+d[q].1) [aC (d[q].2:Nat)]=dx ⟨r1.1,jo r6.1,r4.1,r5.1,r2.1,r3.1,fe g d[q].1 (d[q].2:Nat)⟩:=by
      refine (tw [aC (d[q].2:Nat)] [_,_,_,_,_,_,_] (bX .i64 g 65 0) d[q].1).trans ?_;have e3:cv (bX .i64 g 65 0) d[q].1 [aC (d[q].2:Nat)]=bX .i64 (fe g d[q].1 (d[q].2:Nat)) 65 0:=by
       show (bX .i64 g 65 0).set d[q].1 (aC (d[q].2:Nat))=_;rw[Ah _ _ _ _ _ _ O,VQ]
      rw[e3]
     refine⟨h.can 1 rfl _ _ (by rw[kW];simp;omega),?_⟩;intro H35 h8;have h:=h.set 1 rfl (7+d[q].1) [aC (d[q].2:Nat)];rw[M,<-h8]at h;rw[show i64.wrap ((q:Int)+1)=((q+1:Nat):Int) by rw[aK];omega];refine⟨⟨q+1,fe g d[q].1 (d[q].2:Nat),rfl,f,?_,?_,h.tl⟩,by simp only[VD];omega⟩
     .intro i hi;unfold fe
      split
      .unfold aF;omega
      .exact y i hi
     .rw [e2];congr 1;unfold qH;rw[nO,YC,Yl,List.getElem?_eq_getElem f];rfl
    .have h7:q=d.length:=by have:=V5 E;omega
     subst h7;rw[W1,mQ]at e2;rw[e2]at k;dsimp only at k;refine⟨_,_,_,_,_,_,_,_,h.rda 0 rfl,?_⟩;have wc:WC ⟨r1.1,jo r6.1,r4.1,r5.1,r2.1,r3.1,g⟩:=⟨by unfold aF;dsimp only;omega,Ja _ u.2,h2,l0,by unfold aF;dsimp only;omega,by unfold aF;dsimp only;omega,y⟩;refine ui wc h λH36 h=>⟨_,rfl,λA=>?_,λA=>?_⟩
     .rw [V0 (by simpa using A)]at k;refine h.sta 2 rfl rfl λv h=>⟨_,_,_,_,_,_,_,_,h.rda 2 rfl,k _ h.tl.tl.tl⟩
     .rw [V1 (by simpa using A)]at k;refine⟨_,_,_,_,_,_,_,_,h.rda 0 rfl,?_⟩;refine h.sta 2 rfl (by rw[kW];exact (kW Cl.z).symm) λv h=>⟨_,_,_,_,_,_,_,_,h.rda 2 rfl,k _ h.tl.tl.tl⟩
end
structure bD where
 width:Int
 policy:Int
 most:Int
 lag:Int
 rho:Int
 trust:Int
 agents:Int
 cells:Int
 hold:Int
abbrev bD.gd(c:bD):Gd:=⟨c.width,c.policy,c.most⟩
abbrev oz(c:bD):Os:=[aB c.width,aB c.policy,aB c.most,aB c.lag,aB c.rho,aB c.trust,aB c.agents,aB c.cells,aB c.hold]
structure br where
 ck:Ck
 hs:HS Pv
 last:Int
structure aI where
 cfg:bD
 now:Int
 boots:Int
 sunk:Int
 rows:List En
 ms:MS
 cm:CM
 sts:List (Option br)
 kept:List Ot
section
variable {α:Type}
def cW:Nat->List (Option α)->List (Int×Option α)
 | _,[]=>[]
 | i,none::r=>cW (i+1) r
 | i,some b::r=>((i:Int),some b)::cW (i+1) r
theorem xl:∀{l:List (Option α)} {i:Nat} {p:Int×Option α},p∈cW i l->(i:Int)<=p.1/\p.1<i+l.length
 | [],i,p,h=>by simp[cW]at h
 | none::r,i,p,h=>by
  have a:=xl (l:=r) (i:=i+1) h;simp only[V9];omega
 | some b::r,i,p,h=>by
  simp only[V9]
  rcases VJ.1 h with rfl|h
  .simp only;omega
  .have a:=xl (l:=r) (i:=i+1) h;omega
theorem AX{l:List (Option α)}{i k:Nat}(h:k<i):((k:Nat):Int)∉aG (cW i l):=λhm=>by
 obtain⟨p,a,b⟩:=VB.1 hm;have:=xl a;omega
theorem uw:∀{l:List (Option α)} {i k:Nat},aJ ((i+k:Nat):Int) (cW i l)=match l[k]? with|some (some b)=>some (some b)|_=>none
 | [],i,k=>by simp[cW,aJ]
 | none::r,i,0=>by
  simp only[List.getElem?_cons_zero];exact fw.2 (AX (l:=r) (by omega))
 | some b::r,i,0=>by simp[cW,aJ]
 | none::r,i,k+1=>by
  have a:=uw (l:=r) (i:=i+1) (k:=k);rw[show i+1+k=i+(k+1) by omega]at a;simp only[cW,List.getElem?_cons_succ];exact a
 | some b::r,i,k+1=>by
  have a:=uw (l:=r) (i:=i+1) (k:=k);rw[show i+1+k=i+(k+1) by omega]at a;simp only[cW,List.getElem?_cons_succ,aJ];rw[nO];exact a
theorem Kh{β:Type}{k:Int}{l:List (Int×β)}(h:k∉aG l):bT k l=l:=kP (fw.2 h)
theorem xm{b:α}:∀{l:List (Option α)} {i k:Nat},k<l.length->(cW i (l.set k (some b))).Perm (mset ((i+k:Nat):Int) (some b) (cW i l))
 | none::r,i,0,_=>by
  simp only[Yp,cW];unfold mset;rw[Kh (AX (by omega))];exact .refl _
 | some c::r,i,0,_=>by
  simp only[Yp,cW];unfold mset;have:bT ((i+0:Nat):Int) (((i:Int),some c)::cW (i+1) r)=bT ((i+0:Nat):Int) (cW (i+1) r):=by simp[bT]
  rw[this,Kh (AX (by omega))];exact .refl _
 | none::r,i,k+1,h=>by
  have a:=xm (b:=b) (l:=r) (i:=i+1) (k:=k) (by simpa using h);rw[show i+1+k=i+(k+1) by omega]at a;exact a
 | some c::r,i,k+1,h=>by
  have a:=xm (b:=b) (l:=r) (i:=i+1) (k:=k) (by simpa using h);rw[show i+1+k=i+(k+1) by omega]at a;simp only[Y6,cW];refine (a.cons _).trans ?_;unfold mset;have:bT ((i+(k+1):Nat):Int) (((i:Int),some c)::cW (i+1) r)=((i:Int),some c)::bT ((i+(k+1):Nat):Int) (cW (i+1) r):=by
   have d:¬(i:Int)=((i+(k+1):Nat):Int):=by omega
   simp[bT,Wk,d];omega
  rw[this];exact .swap _ _ _
end
abbrev ptV(p:Option Nat):Value:=match p with|some b=>PA b 0|none=>.pointer none
theorem qI:kA Tryz.prog 142 2 169 ptV none:=og Tryz.underlying142 (by kernel_rfl)
def strA(Q:aE)(b:Nat)(s:br):aE:=exS λp:Nat×Nat=>star [cellsA b [PA p.1 0,PA p.2 0,aC s.last] 173,ckA p.1 s.ck,hldA Q p.2 s.hs]
def strsA(Q:aE):List (Option Nat)->List (Option br)->aE
 | some b::bs,some s::ss=>strA Q b s*strsA Q bs ss
 | _::bs,_::ss=>strsA Q bs ss
 | _,_=>emp
theorem pC{Q:aE}{b:Nat}{s:br}:∀{bl:List (Option Nat)} {sts:List (Option br)} {k:Nat},bl[k]?=some none->sts[k]?=some none->
  strA Q b s*strsA Q bl sts=strsA Q (bl.set k (some b)) (sts.set k (some s))
 | [],_,k,h,_=>by simp at h
 | _::_,[],k,_,h=>by simp at h
 | x::bs,y::ss,0,h1,h2=>by
  simp at h1 h2;subst h1;subst h2;rfl
 | none::bs,y::ss,k+1,h1,h2=>pC (bl:=bs) (sts:=ss) (k:=k) (by simpa using h1) (by simpa using h2)
 | some x::bs,none::ss,k+1,h1,h2=>pC (bl:=bs) (sts:=ss) (k:=k) (by simpa using h1) (by simpa using h2)
 | some x::bs,some y::ss,k+1,h1,h2=>by
  have a:=pC (Q:=Q) (b:=b) (s:=s) (bl:=bs) (sts:=ss) (k:=k) (by simpa using h1) (by simpa using h2);show strA Q b s*(strA Q x y*strsA Q bs ss)=strA Q x y*strsA Q (bs.set k (some b)) (ss.set k (some s));rw[<-a,<-ju,rz (strA Q b s),ju]
theorem AY{Q:aE}:∀{n:Nat},strsA Q (List.replicate n none) (List.replicate n none)=emp
 | 0=>rfl
 | n+1=>AY (n:=n)
section
variable {F L:List aE}{H:aD}{K KP:KE}{Q Q':aE}
theorem gW{b:Nat}{s:br}:aA H (strA Q b s::F)↔∃cb hb,aA H (cellsA b [PA cb 0,PA hb 0,aC s.last] 173::ckA cb s.ck::hldA Q hb s.hs::F):=by
 constructor
 .intro h;obtain⟨⟨cb,hb⟩,h⟩:=cJ.1 h;exact⟨cb,hb,aA.open (A:=[_,_,_]) h⟩
 .rintro⟨cb,hb,h⟩;exact cJ.2 ⟨(cb,hb),aA.shut [_,_,_] h⟩
theorem strA_sub{b:Nat}{s:br}(hs:aM Q Q')(h:aA H (strA Q b s::F)):aA H (strA Q' b s::F):=by
 obtain⟨cb,hb,h⟩:=gW.1 h;have h:=h.o [2,0,1] 3;have h:=AC hs h;exact gW.2 ⟨cb,hb,h.o [1,2,0] 3⟩
theorem ux(hs:aM Q Q'):∀{bl:List (Option Nat)} {sts:List (Option br)} {F:List aE},aA H (strsA Q bl sts::F)->aA H (strsA Q' bl sts::F)
 | [],_,F,h=>h
 | none::_,[],F,h=>h
 | some _::_,[],F,h=>h
 | none::bs,y::ss,F,h=>ux (bl:=bs) (sts:=ss) hs h
 | some x::bs,none::ss,F,h=>ux (bl:=bs) (sts:=ss) hs h
 | some x::bs,some y::ss,F,h=>by
  have h:aA H (strA Q x y::strsA Q bs ss::F):=gu.1 h;have h:=strA_sub hs h;have h:=h.o [1,0] 2;have h:=ux (bl:=bs) (sts:=ss) hs h;have h:=h.o [1,0] 2;exact gu.2 h
def strmA(Q:aE)(tm:Nat)(sts:List (Option br)):aE:=exS λbl:List (Option Nat)=>star [mapA aC ptV tm (cW 0 bl),strsA Q bl sts,pur (bl.map Option.isSome=sts.map Option.isSome)]
abbrev lR(Q:aE)(bl:List (Option Nat))(sts:List (Option br))(k:Nat):aE:=strsA Q (bl.set k none) (sts.set k none)
structure Hole(bl:List (Option Nat))(sts:List (Option br))(k b:Nat):Prop where
 lt:k<sts.length
 m:bl.map Option.isSome=sts.map Option.isSome
 at_:bl[k]?=some (some b)
theorem lf{tm:Nat}{sts:List (Option br)}:aA H (strmA Q tm sts::F)↔∃bl,bl.map Option.isSome=sts.map Option.isSome/\aA H (mapA aC ptV tm (cW 0 bl)::strsA Q bl sts::F):=by
 constructor
 .intro h;obtain⟨bl,h⟩:=cJ.1 h;have h:=aA.open (A:=[_,_,_]) h;have a:=aA.consP (h.o [2,0,1] 3);exact⟨bl,a.1,a.2⟩
 .rintro⟨bl,a,h⟩;exact cJ.2 ⟨bl,aA.shut [_,_,_] ((h.pur a).o [1,2,0] 3)⟩
theorem qJ{bl:List (Option Nat)}{sts:List (Option br)}(h:bl.map Option.isSome=sts.map Option.isSome)(k:Nat):(bl[k]?).map Option.isSome=(sts[k]?).map Option.isSome:=by
 rw[<-List.getElem?_map,<-List.getElem?_map,h]
theorem qK{tm k:Nat}{sts:List (Option br)}{s:br}(h:aA H (strmA Q tm sts::F))(c:sts[k]?=some (some s)) :
  ∃b bl,Hole bl sts k b/\aA H (mapA aC ptV tm (cW 0 bl)::strA Q b s::lR Q bl sts k::F):=by
 obtain⟨bl,hm,h⟩:=lf.1 h;have a:k<sts.length:=(List.getElem?_eq_some_iff.1 c).1;have i:bl.length=sts.length:=by have:=congrArg List.length hm;simpa using this
 have f:=qJ hm k;rw[c,List.getElem?_eq_getElem (show k<bl.length by omega)]at f;simp only[We,Option.isSome_some,Option.some.injEq]at f;obtain⟨b,hb⟩:=YF.1 f;have d:bl[k]?=some (some b):=by rw[List.getElem?_eq_getElem (show k<bl.length by omega),hb]
 refine⟨b,bl,⟨a,hm,d⟩,?_⟩;have e:=pC (Q:=Q) (b:=b) (s:=s) (bl:=bl.set k none) (sts:=sts.set k none) (k:=k) (by rw[List.getElem?_set_self (by omega)]) (by rw[List.getElem?_set_self (by omega)]);rw[Yn,Yn]at e;have e1:bl.set k (some b)=bl:=by rw[<-hb,WN]
 have e2:sts.set k (some s)=sts:=by
  have:sts[k]=some s:=by rw[List.getElem?_eq_getElem a]at c;exact Option.some.inj c
  rw[<-this,WN]
 rw[e1,e2]at e;rw[<-e]at h;have h:=h.o [1,0] 2;have h:=gu.1 h;exact h.o [2,0,1] 3
theorem sE{tm k b:Nat}{bl:List (Option Nat)}{sts:List (Option br)}{s:br}(o:Hole bl sts k b)(h:aA H (mapA aC ptV tm (cW 0 bl)::strA Q b s::lR Q bl sts k::F)) :
  aA H (strmA Q tm (sts.set k (some s))::F):=by
 have d:bl.length=sts.length:=by have:=congrArg List.length o.m;simpa using this
 have a:=o.lt;have e:=pC (Q:=Q) (b:=b) (s:=s) (bl:=bl.set k none) (sts:=sts.set k none) (k:=k) (by rw[List.getElem?_set_self (by omega)]) (by rw[List.getElem?_set_self (by omega)]);rw[Yn,Yn]at e;have hb:bl[k]'(by omega)=some b:=by have:=o.at_;rw[List.getElem?_eq_getElem (by omega)]at this;exact Option.some.inj this
 have e1:bl.set k (some b)=bl:=by rw[<-hb,WN]
 rw[e1]at e;refine lf.2 ⟨bl,?_,?_⟩
 .rw [o.m,Ym];have c:=qJ o.m k;rw[o.at_,List.getElem?_eq_getElem a]at c;simp only[We,Option.isSome_some,Option.some.injEq]at c;have:(sts.map Option.isSome)[k]'(by simpa using a)=true:=by simp[<-c]
  rw[Option.isSome_some,<-this,WN]
 .rw [<-e];have h:=h.o [1,2,0] 3;have h:=gu.2 h;exact h.o [1,0] 2
theorem qL{tm k b:Nat}{bl:List (Option Nat)}{sts:List (Option br)}(o:Hole bl sts k b)(h:aA H F)(i:Nat)(c:aW i F=mapA aC ptV tm (cW 0 bl)) :
  dj Tryz.prog (Instr.lookup 142 (.map (some tm)) (aC (k:Int)) false) H (PA b 0):=by
 have a:=uw (l:=bl) (i:=0) (k:=k);rw[o.at_,VQ]at a;exact ((h.mp_look (x:=((k:Nat):Int)) qI ko2 i c).1 _ a).2
theorem str_nil{tm:Nat}{a:Int}{sts:List (Option br)}(h:aA H (strmA Q tm sts::F))(b:a<0\/sts[a.toNat]?=some none\/sts[a.toNat]?=none) :
  dj Tryz.prog (Instr.lookup 142 (.map (some tm)) (aC a) false) H (.pointer none):=by
 obtain⟨bl,hm,h⟩:=lf.1 h;have f:aJ a (cW 0 bl)=none:=by
  rcases (by omega:a<0\/0<=a) with h0|h0
  .exact fw.2 λhm=>by
    obtain⟨p,j,m⟩:=VB.1 hm;have:=xl j;omega
  .have d:=uw (l:=bl) (i:=0) (k:=a.toNat);rw[VQ,show ((a.toNat:Nat):Int)=a by omega]at d;rw[d];have c:=qJ hm a.toNat
   rcases b with b|b|b
   .omega
   .rw [b]at c
    cases e:bl[a.toNat]? with
    | none=>rfl
    | some x=>
     rw[e]at c
     cases x with
     | none=>rfl
     | some y=>simp at c
   .rw [b]at c
    cases e:bl[a.toNat]? with
    | none=>rfl
    | some x=>rw[e]at c;simp at c
 exact ((h.mp_look (x:=a) qI ko2 0 rfl).2 f).2
end
structure RightQ(c:Cl):Prop where
 n0:0<=c.n
 cer0:0<=c.cer
 pos0:0<=c.pos
 mm:c.mn<=c.mx
 v:∀i,i<65->0<=c.h i
 sum:sumC c.h=c.n
 z:c.n=0->c.sum=0/\c.mn=0/\c.mx=0
 nz:c.n≠0->c.h (bZ c.mn).toNat≠0/\c.h (bZ c.mx).toNat≠0/\∀i,i<65->c.h i=0\/(bZ c.mn<=i/\(i:Int)<=bZ c.mx)
theorem uy{c:Cl}:gh c=true↔RightQ c:=by
 unfold gh
 constructor
 .intro h;simp only[V7,VY,VK,V8,V6]at h;obtain⟨⟨⟨⟨⟨⟨k,f⟩,j⟩,m⟩,d⟩,e⟩,a⟩:=h;refine⟨by omega,by omega,by omega,by omega,qB.1 d,e,λb=>?_,λb=>?_⟩
  .rw [V1 b]at a;simp only[V7,V6]at a;exact⟨a.1.1,a.1.2,a.2⟩
  .rw [V0 b]at a;simp only[V7,VY,VK,V8]at a;refine⟨a.1.1,a.1.2,λi hi=>?_⟩
   have:=a.2;unfold inB at this;rw[Wq]at this;have:=this i (WB.2 hi);simpa only[VN,V6] using this
 .intro h;simp only[V7,VY,VK,V8,V6];refine⟨⟨⟨⟨⟨⟨by have:=h.n0;omega,by have:=h.cer0;omega⟩,by have:=h.pos0;omega⟩,by have:=h.mm;omega⟩,qB.2 h.v⟩,h.sum⟩,?_⟩
  by_cases b:c.n=0
  .rw [V1 b];have:=h.z b;simp only[V7,V6];exact⟨⟨this.1,this.2.1⟩,this.2.2⟩
  .rw [V0 b];have:=h.nz b;simp only[V7,VY,VK,V8];refine⟨⟨this.1,this.2.1⟩,?_⟩;unfold inB;rw[Wq];intro i hi;simp only[VN,V6];exact this.2.2 i (WB.1 hi)
theorem Tu{c:Cl}{b:Bool}(h:(gQ c b).2=0):gh (gQ c b).1=true:=by
 unfold gQ at h ⊢
 split at h
 .simp at h
 .rename_i e;rw[V0 e];have a:=uy.1 (by simpa using e)
  split at h
  .rename_i hb;rw[V1 hb]
   split at h
   .simp at h
   .rename_i d;rw[V0 d];exact uy.2 ⟨a.n0,by have:=a.cer0;show 0<=c.cer+1;omega,a.pos0,a.mm,a.v,a.sum,a.z,a.nz⟩
  .rename_i hb;rw[V0 hb]
   split at h
   .simp at h
   .rename_i d;rw[V0 d];exact uy.2 ⟨a.n0,a.cer0,by have:=a.pos0;show 0<=c.pos+1;omega,a.mm,a.v,a.sum,a.z,a.nz⟩
theorem Tv{a b:Nat}(h:a<=b):bitLen a<=bitLen b:=by
 unfold bitLen
 split
 .omega
 .rename_i d;rw[nO];have c:=Nat.log2_self_le d;have e:=(Nat.le_log2 (show b≠0 by omega)).2 (VO c h);omega
theorem xn{v w:Int}(h:v<=w):bZ v<=bZ w:=by
 have e:∀x:Int,bZ x=if x<0 then 0 else if x=0 then 1 else 1+((bitLen x.toNat:Nat):Int):=λ_=>rfl
 have hm:=Tv (a:=v.toNat) (b:=w.toNat) (by omega);rw[e v,e w]
 by_cases h1:v<0
 .rw [V1 h1]
  by_cases h2:w<0
  .rw [V1 h2];exact Wd _
  .rw [V0 h2]
   by_cases h3:w=0
   .rw [V1 h3];decide
   .rw [V0 h3];omega
 .rw [V0 h1,V0 (show ¬w<0 by omega)]
  by_cases h3:w=0
  .rw [V1 (show v=0 by omega),V1 h3];exact Wd _
  .rw [V0 h3]
   by_cases h4:v=0
   .rw [V1 h4];omega
   .rw [V0 h4];omega
abbrev mR(f:Nat->Int)(n:Nat):Int:=((List.range n).map f).sum
theorem xo(f:Nat->Int)(n:Nat):mR f (n+1)=mR f n+f n:=by
 unfold mR;rw[List.range_succ,VT,List.sum_append];simp
theorem Ki(f:Nat->Int)(j:Nat):∀n,mR (fe f j (f j+1)) n=mR f n+if j<n then 1 else 0
 | 0=>by simp[mR]
 | n+1=>by
  rw[xo,xo,Ki f j n];unfold fe
  by_cases h:n=j
  .subst h;simp;omega
  .rw [V0 h]
   by_cases h2:j<n
   .rw [V1 h2,pO];omega
   .rw [V0 h2,nO];omega
theorem Kj{f:Nat->Int}:∀{n:Nat},(∀i,i<n->0<=f i)->mR f n<=0->∀i,i<n->f i=0
 | 0,_,_,i,hi=>by omega
 | n+1,h,hs,i,hi=>by
  rw[xo]at hs;have h0:0<=mR f n:=sumR_nn λi hi=>h i (by omega)
  have b:=h n (by omega)
  rcases (by omega:i<n\/i=n) with a|rfl
  .exact Kj (λi hi=>h i (by omega)) (by omega) i a
  .omega
where sumR_nn {f:Nat->Int}:∀{n:Nat},(∀i,i<n->0<=f i)->0<=mR f n
 | 0,_=>by simp[mR]
 | n+1,h=>by
  rw[xo];have:=sumR_nn (n:=n) λi hi=>h i (by omega)
  have:=h n (by omega);omega
theorem Tw{c:Cl}{v:Int}(wc:WC c)(B:aF v)(h:(jV c v).2=0):gh (jV c v).1=true:=by
 unfold jV at h ⊢
 split at h
 .simp at h
 rename_i u;rw[V0 u];have a:=uy.1 (by simpa using u)
 split at h
 .simp at h
 rename_i k;rw[V0 k]
 split at h
 .simp at h
 rename_i E;rw[V0 E]
 split at h
 .simp at h
 rename_i d;rw[V0 d];have e1:(j0 c.n 1).1=c.n+1:=by
  unfold j0 at k ⊢
  split at k
  .rename_i F;rw[V1 F]
  .simp at k
 have bv:=pq B;have e3:(jn c.h v).1=fe c.h (bZ v).toNat (c.h (bZ v).toNat+1):=by
  unfold jn at d ⊢
  split at d
  .simp at d
  .rename_i C;rw[V0 C]
   split at d
   .simp at d
   .rename_i j;rw[V0 j]
 have s:∀i,i≠(bZ v).toNat->fe c.h (bZ v).toNat (c.h (bZ v).toNat+1) i=c.h i:=λi hi=>by unfold fe;rw[V0 hi]
 have hs:fe c.h (bZ v).toNat (c.h (bZ v).toNat+1) (bZ v).toNat=c.h (bZ v).toNat+1:=by unfold fe;rw[V1 rfl]
 have H:=a.v (bZ v).toNat (by omega);have I:=a.n0;refine uy.2 ?_;dsimp only;rw[e1,e3];have D:c.n=0->∀i,i<65->c.h i=0:=λh0=>Kj (n:=65) a.v (by have:=a.sum;unfold sumC rowH at this;show ((List.range 65).map c.h).sum<=0;omega)
 refine⟨?_,a.cer0,a.pos0,?_,λi hi=>?_,?_,λh0=>?_,λ_=>?_⟩
 .show 0<=c.n+1;omega
 .have:=a.mm;dsimp only
  by_cases h0:c.n=0
  .simp only[V1 h0];split <;> omega
  .simp only[V0 h0];split <;> split <;> omega
 .dsimp only
  by_cases e:i=(bZ v).toNat
  .subst e;rw[hs];omega
  .rw [s i e];exact a.v i hi
 .have j:=Ki c.h (bZ v).toNat 65;rw[pO]at j;have G:=a.sum;show mR _ 65=c.n+1;rw[j];unfold sumC rowH at G;show ((List.range 65).map c.h).sum+1=_;omega
 .exfalso;have h0:c.n+1=0:=h0;omega
 .dsimp only
  by_cases h0:c.n=0
  .rw [V1 h0,V1 h0,nO,hs];refine⟨by omega,by omega,λi hi=>?_⟩
   by_cases e:i=(bZ v).toNat
   .right;omega
   .left;rw[s i e];exact D h0 i hi
  .rw [V0 h0,V0 h0];have b:=a.nz h0;have f:∀i,c.h i≠0->i<65->fe c.h (bZ v).toNat (c.h (bZ v).toNat+1) i≠0:=λi hi J=>by
    by_cases e:i=(bZ v).toNat
    .subst e;rw[hs];omega
    .rw [s i e];exact hi
   have A:=pq wc.mn;have y:=pq wc.mx;have m1:∀x,x<=c.mn->bZ x<=bZ c.mn:=λx t=>xn t
   have m2:∀x,c.mx<=x->bZ c.mx<=bZ x:=λx t=>xn t
   refine⟨?_,?_,λi hi=>?_⟩
   .split
    .rw [hs];omega
    .exact f _ b.1 (by omega)
   .split
    .rw [hs];omega
    .exact f _ b.2.1 (by omega)
   .by_cases e:i=(bZ v).toNat
    .right;subst e
     constructor
     .split
      .omega
      .have:=xn (v:=c.mn) (w:=v) (by omega);omega
     .split
      .omega
      .have:=xn (v:=v) (w:=c.mx) (by omega);omega
    .rw [s i e]
     rcases b.2.2 i hi with m|m
     .left;exact m
     .right
      constructor
      .split
       .have:=m1 v (by omega);omega
       .exact m.1
      .split
       .have:=m2 v (by omega);omega
       .exact m.2
theorem nT{κ α:Type}[DecidableEq κ]{x:κ}{v:α}{m:List (κ×α)}{p:κ×α}(h:p∈mset x v m):p=(x,v)\/p∈m:=by
 unfold mset at h
 rcases VJ.1 h with h|h
 .exact .inl h
 .exact .inr (WA.1 h).1
structure sF(m:CM):Prop where
 nd:(aG m).Nodup
 wc:∀p∈m,WC p.2
 rt:∀p∈m,gh p.2=true
 wn:∀p∈m,aF p.1.win
theorem sF.mset{m:CM}(h:sF m){k:Ky}{c:Cl}(e:WC c)(b:gh c=true)(d:aF k.win):sF (mset k c m):=
 ⟨oP h.nd,λp a=>by
  rcases nT a with rfl|a
  .exact e
  .exact h.wc p a,λp a=>by
  rcases nT a with rfl|a
  .exact b
  .exact h.rt p a,λp a=>by
  rcases nT a with rfl|a
  .exact d
  .exact h.wn p a⟩
theorem AZ{m:CM}{ser:Fa}{b:Bool}:∀{ws:List Int} {p:Ky×Cl},p∈(ii m ser b ws).1->∃w∈ws,p.1=⟨w,ser⟩/\p.2=(gQ (fQ m ⟨w,ser⟩) b).1/\(gQ (fQ m ⟨w,ser⟩) b).2=0
 | [],p,h=>by simp[ii]at h
 | w::r,p,h=>by
  unfold ii at h
  split at h
  .simp at h
  .rename_i h0
   rcases VJ.1 h with rfl|h
   .exact⟨w,VM ..,rfl,rfl,by simpa using h0⟩
   .obtain⟨a,d,c⟩:=AZ h;exact⟨a,VL _ d,c⟩
theorem Kk{m:CM}{ser:Fa}{b:Bool}:∀{ws:List Int},(ii m ser b ws).2=0->aG (ii m ser b ws).1=ws.map λw=>(⟨w,ser⟩:Ky)
 | [],_=>rfl
 | w::r,h=>by
  unfold ii at h ⊢
  split at h
  .rename_i h0;exact V2 h h0
  .rename_i h0;rw[V0 h0];have a:=Kk (ws:=r) h;show _::aG (ii m ser b r).1=_;rw[a];rfl
theorem Kl:∀{l:CM} {m:CM},sF m->(∀p∈l,WC p.2/\gh p.2=true/\aF p.1.win)->sF (lL l m)
 | [],m,h,_=>h
 | p::r,m,h,hl=>by
  have a:=hl p (VM ..);exact Kl (l:=r) (h.mset a.1 a.2.1 a.2.2) λq b=>hl q (VL _ b)
theorem Tx{κ α:Type}[DecidableEq κ]{x:κ}{v:α}{m:List (κ×α)}(a:(aG m).Nodup):(mset x v m).length=m.length+(if (aJ x m).isNone then 1 else 0):=by
 cases h:aJ x m with
 | none=>rw[Ei h];rfl
 | some u=>rw[El a h];rfl
theorem Km:∀{l:CM} {m:CM},(aG m).Nodup->(aG l).Nodup->((lL l m).length:Int)=m.length+((aG l).filter λk=>(aJ k m).isNone).length
 | [],m,_,_=>by simp[lL]
 | p::r,m,hn,hl=>by
  have a:p.1∉aG r/\(aG r).Nodup:=WQ.1 hl;show ((lL r (mset p.1 p.2 m)).length:Int)=_;rw[Km (l:=r) (oP hn) a.2,Tx hn];have e:(aG r).filter (λk=>(aJ k (mset p.1 p.2 m)).isNone)=(aG r).filter (λk=>(aJ k m).isNone):=by
   apply Yz;intro k b;rw[lD,V0 (λe:k=p.1=>a.1 (e▸b))]
  rw[e];show _=_+(((p.1::aG r).filter λk=>(aJ k m).isNone).length:Int)
  rw[Wk]
  cases (aJ p.1 m).isNone <;> simp <;> omega
theorem wins_wf{first last:Int}(c:aF first)(b:aF last):∀w∈cr first last,aF w:=by
 intro w a;unfold cr at a;obtain⟨i,hi,rfl⟩:=VB.1 a;have:=WB.1 hi;unfold aF at *;omega
theorem Ty(first last:Int)(ser:Fa):((cr first last).map λw=>(⟨w,ser⟩:Ky)).Nodup:=by
 unfold cr;rw[Wr];refine Yw.2 (List.nodup_range.imp λ{a b} c e=>c ?_)
 have:=congrArg Ky.win e;dsimp only[Function.comp]at this;omega
theorem dX.good{most:Int}{m:CM}(h:dX most m):sF m:=⟨h.nd,h.wc,h.rt,h.wn⟩
theorem xp{most:Int}{m:CM}{first last:Int}{ser:Fa}(h:dX most m)(n:aF first)(u:aF last):dX most (jX most m first last ser).1:=by
 unfold jX
 split
 .exact h
 split
 .exact h
 split
 .exact h
 rename_i i s d;have d:(ii m ser (decide (first=last)) (cr first last)).2=0:=by simpa using d
 have c:=Kl (l:=(ii m ser (decide (first=last)) (cr first last)).1) h.good λp j=>by
  obtain⟨w,t,e1,e2,e3⟩:=AZ j;rw[e2,e1];exact⟨IG (h.cell _) _,Tu e3,wins_wf n u w t⟩
 have f:=Kk d;have a:=Km (l:=(ii m ser (decide (first=last)) (cr first last)).1) (m:=m) h.nd (by rw[f];exact Ty first last ser);rw[f]at a;refine⟨h.m1,h.m2,c.nd,c.wc,c.rt,c.wn,?_⟩;dsimp only;rw[a];have b:qD most m first last ser=true:=by simpa using s
 unfold qD at b;rw[V0 i]at b
 split at b
 .cases b
 .have b:=V4 b;have e:((((cr first last).map λw=>(⟨w,ser⟩:Ky)).filter λk=>(aJ k m).isNone).length:Int)=jW m ser (cr first last):=by
   unfold jW;rw[List.filter_map,VH];rfl
  rw[e];exact b
theorem Tz{most:Int}{m:CM}{k:Ky}{v:Int}(h:dX most m)(b:aF v)(e:aF k.win):dX most (mH m k v).1:=by
 unfold mH
 split
 .exact h
 .rename_i c d
  split
  .exact h
  .rename_i h0;have h0:(jV c v).2=0:=by simpa using h0
   have wc:=h.wc _ (iv d);have a:=h.good.mset (k:=k) (addC_wf wc b) (Tw wc b h0) e;refine⟨h.m1,h.m2,a.nd,a.wc,a.rt,a.wn,?_⟩;dsimp only;rw[El h.nd d];exact h.len
theorem setS_ok{most:Int}{m:CM}{k:Ky}{c:Cl}(h:dX most m)(wc:WC c)(f:aF k.win):dX most (jY most m k c).1:=by
 unfold jY
 split
 .exact h
 split
 .exact h
 split
 .exact h
 rename_i b d i;have a:=h.good.mset (k:=k) wc (by simpa using d) f;refine⟨h.m1,h.m2,a.nd,a.wc,a.rt,a.wn,?_⟩;dsimp only;have:aJ k m=none:=by
  cases e:aJ k m with
  | none=>rfl
  | some x=>rw[e]at b;simp at b
 rw[Ei this];omega
theorem xq:∀{l:List Ot} {m:CM} {p:Ky×Cl},p∈lM m l->p∈m
 | [],m,p,h=>h
 | o::r,m,p,h=>(WA.1 (xq (l:=r) h)).1
theorem Ko:∀{l:List Ot} {m:CM},(aG m).Nodup->(aG (lM m l)).Nodup/\(lM m l).length<=m.length
 | [],m,h=>⟨h,VA _⟩
 | o::r,m,h=>by
  have b:(aG (bT o.1 m)).Nodup:=h.sublist (List.filter_sublist.map _);have a:=Ko (l:=r) b;have c:(bT o.1 m).length<=m.length:=Y0 _ _;exact⟨a.1,VO a.2 c⟩
theorem T3{most:Int}{m:CM}{a:Int}(h:dX most m):dX most (nN m a):=by
 have c:=Ko (l:=iC m a) h.nd;exact⟨h.m1,h.m2,c.1,λp b=>h.wc p (xq b),λp b=>h.rt p (xq b),λp b=>h.wn p (xq b),by have:=c.2;have:=h.len;unfold nN;omega⟩
def cQ(ck:Ck)(fl:Fl)(now stamp:Int):Gp×Int:=
 if (ckAt ck stamp).2≠0 then (Gp.z,(ckAt ck stamp).2)
 else if (kS [(ckAt ck stamp).1,⟨fl.t,now⟩]).2≠0 then (Gp.z,13) else ((kS [(ckAt ck stamp).1,⟨fl.t,now⟩]).1,0)
abbrev bG(ms:MS)(a:Int):Fl:=(aJ a ms.m).getD Fl.z
structure JR where
 st:br
 ms:MS
 cm:CM
 reason:Int
 win:Int
 gap:Gp
def eE(c:bD)(now a:Int)(st:br)(ms:MS)(cm:CM)(e:Pv):JR:=
 if e.stamp<st.last then ⟨st,ms,cm,6,0,Gp.z⟩ else
 if (cQ st.ck (bG ms a) now e.stamp).2≠0\/st.ck.held=true then ⟨{ st with last:=e.stamp },ms,cm,2,0,Gp.z⟩ else
 if (cQ st.ck (bG ms a) now e.stamp).1.lo<(ms.raise a (cQ st.ck (bG ms a) now e.stamp).1.lo).1.value then
  ⟨{ st with last:=e.stamp },(ms.raise a (cQ st.ck (bG ms a) now e.stamp).1.lo).1,cm,1,0,(cQ st.ck (bG ms a) now e.stamp).1⟩ else
 if (jX c.cells cm (dK c.gd (cQ st.ck (bG ms a) now e.stamp).1).1 (dK c.gd (cQ st.ck (bG ms a) now e.stamp).1).2.1 (gC e.name e.labs)).2≠0 then
  ⟨{ st with last:=e.stamp },(ms.raise a (cQ st.ck (bG ms a) now e.stamp).1.lo).1,
   (jX c.cells cm (dK c.gd (cQ st.ck (bG ms a) now e.stamp).1).1 (dK c.gd (cQ st.ck (bG ms a) now e.stamp).1).2.1 (gC e.name e.labs)).1,4,0,(cQ st.ck (bG ms a) now e.stamp).1⟩ else
 if (mF c.gd (cQ st.ck (bG ms a) now e.stamp).1).2≠0 then
  ⟨{ st with last:=e.stamp },(ms.raise a (cQ st.ck (bG ms a) now e.stamp).1.lo).1,
   (jX c.cells cm (dK c.gd (cQ st.ck (bG ms a) now e.stamp).1).1 (dK c.gd (cQ st.ck (bG ms a) now e.stamp).1).2.1 (gC e.name e.labs)).1,3,0,(cQ st.ck (bG ms a) now e.stamp).1⟩ else
 ⟨{ st with last:=e.stamp },(ms.raise a (cQ st.ck (bG ms a) now e.stamp).1.lo).1,
  (mH (jX c.cells cm (dK c.gd (cQ st.ck (bG ms a) now e.stamp).1).1 (dK c.gd (cQ st.ck (bG ms a) now e.stamp).1).2.1 (gC e.name e.labs)).1 ⟨(mF c.gd (cQ st.ck (bG ms a) now e.stamp).1).1,gC e.name e.labs⟩ e.value).1,
  if (mH (jX c.cells cm (dK c.gd (cQ st.ck (bG ms a) now e.stamp).1).1 (dK c.gd (cQ st.ck (bG ms a) now e.stamp).1).2.1 (gC e.name e.labs)).1 ⟨(mF c.gd (cQ st.ck (bG ms a) now e.stamp).1).1,gC e.name e.labs⟩ e.value).2≠0 then 4 else 0,
  if (mH (jX c.cells cm (dK c.gd (cQ st.ck (bG ms a) now e.stamp).1).1 (dK c.gd (cQ st.ck (bG ms a) now e.stamp).1).2.1 (gC e.name e.labs)).1 ⟨(mF c.gd (cQ st.ck (bG ms a) now e.stamp).1).1,gC e.name e.labs⟩ e.value).2≠0 then 0 else (mF c.gd (cQ st.ck (bG ms a) now e.stamp).1).1,
  (cQ st.ck (bG ms a) now e.stamp).1⟩
section
variable {F L:List aE}{H:aD}{K KP:KE}{Q Q':aE}
theorem Kp{sb c mb mm cb hb:Nat}{cs:Os}{ms:MS}{ck:Ck}{now a stamp last:Int}(i:ck.smps.length<=8)(v:aT cs 9=some (aC now))(n:aT cs 16=some (PA mb 0))
  (h:aA H (cellsA sb cs 145::Ma.markC mb mm ms::Ma.mapF mm ms.m::cellsA c [PA cb 0,PA hb 0,aC last] 173::ckA cb ck::F))
  (k:∀f,aA f (cellsA sb cs 145::Ma.markC mb mm ms::Ma.mapF mm ms.m::cellsA c [PA cb 0,PA hb 0,aC last] 173::ckA cb ck::F)->
   K (.tuple #[jS (cQ ck (bG ms a) now stamp).1,aC (cQ ck (bG ms a) now stamp).2]) f) :
  CF 156 #[PA sb 0,aC a,PA c 0,aC stamp] H K:=by
 refine cN 156 298920156 [[(11,sI),(14,sA)]] ?_;refine h.al λb _ h=>⟨_,h.r 4,?_⟩
 have h:=h.o [5,0,1,2,3,4] 6;refine Rn i h λB h=>⟨_,_,_,rfl,?_⟩
 unfold cQ at k;generalize ckAt ck stamp=C at *;refine h.al λb1 _ h=>?_
 refine h.st 0 rfl rfl ?_;intro y h;refine⟨λe=>?_,λe=>?_⟩
 .rw [V1 (by simpa using e)]at k;refine h.st 2 rfl rfl ?_;intro j h;refine⟨_,_,h.q 2,?_⟩;exact k _ (h.o [3,4,5,6,1] 7)
 rw[V0 (by simpa using e)]at k;refine⟨_,(h.r 3).trans n,?_⟩;have h:=h.o [4,5,0,1,2,3,6] 7;refine Ma.Of_spec (a:=a) h λj h=>⟨_,_,_,_,_,rfl,?_⟩
 refine h.al λb2 _ h=>?_
 refine h.st 0 rfl rfl ?_;intro A h;intro w x;generalize hM:kS [C.1,⟨(bG ms a).t,now⟩]=M at *;have d:∀pb f,aA f (cellsA pb [aC M.1.lo,aC M.1.hi] 89::cellsA b [aC 0,aC 0] 89::cellsA sb cs 145::Ma.markC mb mm ms::Ma.mapF mm ms.m::cellsA c [PA cb 0,PA hb 0,aC last] 173::ckA cb ck::F)->w M.2 pb 0 f:=by
  intro pb f h;refine x _ _ _ _ ?_;refine⟨λe=>?_,λe=>?_⟩
  .rw [V1 (by simpa using e)]at k;refine h.st 1 rfl rfl ?_;intro j h;exact⟨_,_,h.q 1,k _ h.tl.tl⟩
  .rw [V0 (by simpa using e)]at k;refine⟨_,_,h.q 0,?_⟩;refine h.st 1 rfl rfl ?_;intro j h;exact⟨_,_,h.q 1,k _ h.tl.tl⟩
 refine⟨_,_,h.q 3,_,h.r 0,_,(h.r 6).trans v,?_,?_⟩
 .refine h.al λb3 _ h=>⟨?_,?_⟩
  .refine ud (gs:=[C.1,⟨(bG ms a).t,now⟩]) h (λH h=>h.ce_rd 0 rfl) (by simp) λs h=>⟨_,_,_,rfl,?_⟩
   rw[hM];refine h.al λb4 _ h=>?_
   refine h.st 0 rfl rfl ?_;intro u h;exact d _ _ (h.o [0,7,8,3,4,9,6] 10)
  .refine h.al λb5 _ h=>?_
   refine ud (gs:=[C.1,⟨(bG ms a).t,now⟩]) h (λH h=>h.ce_rd 1 rfl) (by simp) λs h=>⟨_,_,_,rfl,?_⟩
   rw[hM];refine h.st 0 rfl rfl ?_;intro u h;exact d _ _ (h.o [0,7,8,3,4,9,6] 10)
 .refine h.al λb6 _ h=>⟨(h.r 7).trans v,h.r 1,h.q 4,?_⟩
  refine h.al λb7 _ h=>?_
  refine ud (gs:=[C.1,⟨(bG ms a).t,now⟩]) h (λH h=>h.ce_rd 0 rfl) (by simp) λs h=>⟨_,_,_,rfl,?_⟩
  rw[hM];refine h.st 1 rfl rfl ?_;intro u h;exact d _ _ (h.o [1,7,8,3,4,9,6] 10)
theorem Kq(g:Gd)(t:Int):aF (fP g t):=by
 unfold fP
 split
 .split <;> exact i64in _
 .unfold aF;decide
theorem wf_meets(g:Gd)(x:Gp):aF (dK g x).1/\aF (dK g x).2.1:=by
 unfold dK
 split
 .split
  .exact⟨Kq _ _,Kq _ _⟩
  .unfold aF;decide
 .unfold aF;decide
theorem T4{c:bD}{sb n mm cb:Nat}{p_mb p_hb p_hm y:Nat}{cs:Os}{ms:MS}{cm:CM}{st:br}{now a:Int}{e:Ev}(I:st.ck.smps.length<=8)(ok:dX c.cells cm)(V:aF e.value)
  (Z:aT cs 9=some (aC now)) (w:(cs.drop 12).take 3=[aC c.width,aC c.policy,aC c.most]) (u:aT cs 16=some (PA p_mb 0)) (D:aT cs 17=some (PA p_hb 0)) (Y:∀H,aA H F->aP H e.la (flat dg e.labs))
  (h:aA H (cellsA sb cs 145::Ma.markC p_mb mm ms::Ma.mapF mm ms.m::shC p_hb p_hm c.cells::cz p_hm cm::cellsA n [PA cb 0,PA y 0,aC st.last] 173::ckA cb st.ck::F))
  (k:∀L,aA L (cellsA sb cs 145::Ma.markC p_mb mm (eE c now a st ms cm e.p).ms::Ma.mapF mm (eE c now a st ms cm e.p).ms.m::shC p_hb p_hm c.cells::cz p_hm (eE c now a st ms cm e.p).cm::cellsA n [PA cb 0,PA y 0,aC (eE c now a st ms cm e.p).st.last] 173::ckA cb st.ck::F)->
   K (.tuple #[.agg #[aC (eE c now a st ms cm e.p).reason,aC (eE c now a st ms cm e.p).win],jS (eE c now a st ms cm e.p).gap]) L) :
  CF 155 #[PA sb 0,aC a,PA n 0,aggV e] H K:=by
 refine cM 155 8182367178792412 ?_;unfold eE at k;have i:e.p.stamp=e.stamp:=rfl;have B:e.p.value=e.value:=rfl;have s:e.p.name=e.name:=rfl;have j:e.p.labs=e.labs:=rfl;rw[i,B,s,j]at k;refine h.al λb _ h=>?_
 refine h.al λb1 _ h=>?_
 refine h.al λb2 _ h=>?_
 refine⟨_,h.r 2,_,h.r 8,λd=>?_,λd=>?_⟩
 .have d:=V4 d;simp only[V1 d]at k;refine h.st 1 rfl rfl ?_;intro R h;refine h.st 0 rfl rfl ?_;intro S h;exact⟨_,_,h.q 1,_,_,h.q 0,k _ h.tl.tl.tl⟩
 have d:=V5 d;simp only[V0 d]at k;refine⟨_,h.r 2,?_⟩;refine h.st 8 rfl rfl ?_;intro R h;refine⟨_,h.r 2,?_⟩;have h:=h.o [3,4,5,8,9,0,1,2,6,7] 10;refine Kp (a:=a) (stamp:=e.stamp) I Z u h λS h=>⟨_,_,_,rfl,?_⟩
 generalize cQ st.ck (bG ms a) now e.stamp=T at *;refine h.al λb3 _ h=>?_
 refine h.st 0 rfl rfl ?_;intro H4 h;refine⟨_,h.rd 4 rfl 0,_,uf (h.o [5] 6),λd=>?_,λd=>?_⟩
 .have d:T.2≠0\/st.ck.held=true:=by
   simp only[VN,VY,V8]at d
   rcases d with d|d
   .exact .inr d
   .exact .inl d
  simp only[V1 d]at k;refine h.st 7 rfl rfl ?_;intro Q h;refine h.st 6 rfl rfl ?_;intro O h;exact⟨_,_,h.q 7,_,_,h.q 6,k _ (h.o [1,2,3,9,10,4,5] 11)⟩
 have d:¬(T.2≠0\/st.ck.held=true):=by
  simp only[VK,Wm,V6]at d;rintro (E|E)
  .exact E d.2
  .rw [d.1]at E;cases E
 simp only[V0 d]at k;refine⟨_,(h.r 1).trans u,_,h.r 0,?_⟩;have h:=h.o [2,3,0,1,4,5,6,7,8,9,10] 11;refine Ma.Raise_spec (a:=a) (t:=T.1.lo) h λQ h=>⟨_,rfl,?_⟩
 generalize (ms.raise a T.1.lo).1=M at *;refine⟨_,h.r 2,_,(h.r 3).trans u,_,Ma.Value_spec h 0 rfl,λd=>?_,λd=>?_⟩
 .have d:=V4 d;simp only[V1 d]at k;refine⟨_,_,h.q 2,?_⟩;refine h.st 7 rfl rfl ?_;intro O h;refine⟨h.q 2,?_⟩;refine h.st 6 rfl rfl ?_;intro H7 h;exact⟨_,_,h.q 7,_,_,h.q 6,k _ (h.o [3,0,1,9,10,4,5] 11)⟩
 have d:=V5 d;simp only[V0 d]at k;refine⟨_,_,_,_,h.q 8,?_⟩;refine Sf h (λH h=>Y H (h.o [] 11)) λO h=>⟨_,rfl,?_⟩
 generalize gC e.name e.labs=ser at *;refine⟨_,_,_,h.rds 3 rfl w,_,_,h.q 2,?_⟩;refine Iz (g:=c.gd) (x:=T.1) h λH7 h=>⟨_,_,_,rfl,?_⟩
 have f:=wf_meets c.gd T.1;generalize dK c.gd T.1=W at *;refine⟨_,(h.r 3).trans D,?_⟩;have h:=h.o [9,10,0,1,2,3,4,5,6,7,8] 11;refine RH ok f.1 f.2 h λH8 h=>⟨_,rfl,?_⟩
 have G:dX c.cells (jX c.cells cm W.1 W.2.1 ser).1:=xp ok f.1 f.2;generalize jX c.cells cm W.1 W.2.1 ser=N at *;refine⟨λd=>?_,λd=>?_⟩
 .have d:N.2≠0:=by simpa using d
  simp only[V1 d]at k;refine⟨_,_,h.q 4,?_⟩;refine h.st 9 rfl rfl ?_;intro U h;refine⟨h.q 4,?_⟩;refine h.st 8 rfl rfl ?_;intro v h;exact⟨_,_,h.q 9,_,_,h.q 8,k _ (h.o [5,2,3,0,1,6,7] 11)⟩
 have d:¬N.2≠0:=by simpa using d
 simp only[V0 d]at k;refine⟨_,_,_,h.rds 5 rfl w,_,_,h.q 4,?_⟩;refine Rh (g:=c.gd) (x:=T.1) h λU h=>⟨_,_,rfl,?_⟩
 generalize mF c.gd T.1=P at *;refine⟨λd=>?_,λd=>?_⟩
 .have d:P.2≠0:=by simpa using d
  simp only[V1 d]at k;refine⟨_,_,h.q 4,?_⟩;refine h.st 9 rfl rfl ?_;intro v h;refine⟨h.q 4,?_⟩;refine h.st 8 rfl rfl ?_;intro A h;exact⟨_,_,h.q 9,_,_,h.q 8,k _ (h.o [5,2,3,0,1,6,7] 11)⟩
 have d:¬P.2≠0:=by simpa using d
 simp only[V0 d]at k;refine⟨_,(h.r 5).trans D,_,h.r 10,?_⟩;refine R9 G (key:=⟨P.1,ser⟩) V h λv h=>⟨_,rfl,?_⟩
 generalize mH N.1 ⟨P.1,ser⟩ e.value=C at *;refine⟨λd=>?_,λd=>?_⟩
 .have d:C.2≠0:=by simpa using d
  simp only[V1 d]at k;refine⟨_,_,h.q 4,?_⟩;refine h.st 9 rfl rfl ?_;intro A h;refine⟨h.q 4,?_⟩;refine h.st 8 rfl rfl ?_;intro J h;exact⟨_,_,h.q 9,_,_,h.q 8,k _ (h.o [5,2,3,0,1,6,7] 11)⟩
 .have d:¬C.2≠0:=by simpa using d
  simp only[V0 d]at k;refine⟨_,_,h.q 4,?_⟩;refine h.st 9 rfl rfl ?_;intro A h;refine⟨h.q 4,?_⟩;refine h.st 8 rfl rfl ?_;intro J h;exact⟨_,_,h.q 9,_,_,h.q 8,k _ (h.o [5,2,3,0,1,6,7] 11)⟩
end
structure bI where
 kind:Int:=0
 agent:Int:=0
 epoch:Int:=0
 boot:Int:=0
 next:Int:=0
 number:Int:=0
 ida:Int:=0
 ide:Int:=0
 seq:Int:=0
 reason:Int:=0
 win:Int:=0
 gap:Gp:=Gp.z
 out:Ot:=(⟨0,⟨#[]⟩⟩,Cl.z)
abbrev dN(e:bI):Os:=[aB e.kind,aB e.agent,aB e.epoch,aB e.boot,aB e.next,aB e.number,aB e.ida,aB e.ide,aB e.seq,aB e.reason,aB e.win,aB e.gap.lo,aB e.gap.hi,
 aB e.out.1.win,.string e.out.1.ser,aB e.out.2.n,aB (cx e.out.2.sum),.int .u64 (wlo e.out.2.sum),aB e.out.2.mn,aB e.out.2.mx,aB e.out.2.cer,aB e.out.2.pos]++bX .i64 e.out.2.h 65 0
theorem Kr(e:bI):(dN e).length=87:=rfl
theorem uz(e:bI):cT (dN e)=true:=rfl
structure SAd where
 rb:Nat
 rm:Nat
 mb:Nat
 mm:Nat
 hb:Nat
 hm:Nat
 tm:Nat
 ka:KQ
 kc:Nat
abbrev dq(s:aI)(p:SAd):Os:=[aB s.cfg.width,aB s.cfg.policy,aB s.cfg.most,aB s.cfg.lag,aB s.cfg.rho,aB s.cfg.trust,aB s.cfg.agents,aB s.cfg.cells,aB s.cfg.hold,aB s.now,aB s.boots,aB s.sunk,
 aB s.cfg.width,aB s.cfg.policy,aB s.cfg.most,PA p.rb 0,PA p.mb 0,PA p.hb 0,.map (some p.tm),.slice p.ka s.kept.length p.kc]
structure jA(c:bD):Prop where
 gd:c.gd.ok
 lag:1<=c.lag/\c.lag<=1099511627776
 rate:gy c.rho/\0<=c.trust/\c.trust<=100
 ag:1<=c.agents/\c.agents<=64
 cl:1<=c.cells/\c.cells<=1024
 hd:1<=c.hold/\c.hold<=256
structure lS(c:bD)(s:br):Prop where
 ck:CkOk s.ck
 rho:s.ck.rho=c.rho
 least:s.ck.least=c.trust
 hs:s.hs.Ok
 most:s.hs.most=c.hold
 next:s.hs.next<=1099511627776
 rows:∀p∈s.hs.rows,p.1<1099511627776/\gT p.2=true/\aF p.2.value
 last:-1<=s.last/\s.last<=4611686018427387903
structure cR(s:aI):Prop where
 cfg:jA s.cfg
 now:isT s.now
 boots:0<=s.boots/\s.boots<=1099511627776
 sunk:0<=s.sunk
 rows:fR s.rows
 ms:MOk s.ms
 lag:s.ms.lag=s.cfg.lag
 sh:dX s.cfg.cells s.cm
 len:s.sts.length=64
 sts:∀st,some st∈s.sts->lS s.cfg st
 reg:∀k:Nat,(∃st:br,s.sts[k]?=some (some st))↔∃e:En,s.rows[k]?=some e/\0<e.epoch
 kept:∀o∈s.kept,WC o.2
theorem sl39:SlT Tryz.prog 54 305 87 704:=iP (by kernel_rfl)
abbrev stLZZ(Q:aE)(sb:Nat)(s:aI)(p:SAd):List aE:=[cellsA sb (dq s p) 145,Ro.rollC p.rb p.rm s.cfg.agents,Ro.mapE p.rm s.rows,Ma.markC p.mb p.mm s.ms,Ma.mapF p.mm s.ms.m,shC p.hb p.hm s.cfg.cells,cz p.hm s.cm,strmA Q p.tm s.sts,slA 164 74 p.ka s.kept.length p.kc (flat cI s.kept)]
def stA(Q:aE)(sb:Nat)(s:aI):aE:=exS λp:SAd=>star (stLZZ Q sb s p)
section
variable {F L:List aE}{H:aD}{K KP:KE}{Q Q':aE}
theorem cX{sb:Nat}{s:aI}:aA H (stA Q sb s::F)↔∃p:SAd,aA H (cellsA sb (dq s p) 145::Ro.rollC p.rb p.rm s.cfg.agents::Ro.mapE p.rm s.rows::Ma.markC p.mb p.mm s.ms::Ma.mapF p.mm s.ms.m::shC p.hb p.hm s.cfg.cells::cz p.hm s.cm::strmA Q p.tm s.sts::slA 164 74 p.ka s.kept.length p.kc (flat cI s.kept)::F):=by
 constructor
 .intro h;obtain⟨p,h⟩:=cJ.1 h;exact⟨p,aA.open h⟩
 .rintro⟨p,h⟩;exact cJ.2 ⟨p,aA.shut (stLZZ Q sb s p) h⟩
theorem Ks{tm:Nat}{sts:List (Option br)}(hs:aM Q Q')(h:aA H (strmA Q tm sts::F)):aA H (strmA Q' tm sts::F):=by
 obtain⟨bl,a,h⟩:=lf.1 h;have h:=h.o [1,0] 2;have h:=ux hs h;exact lf.2 ⟨bl,a,h.o [1,0] 2⟩
theorem oA{sb:Nat}{s:aI}(hs:aM Q Q')(h:aA H (stA Q sb s::F)):aA H (stA Q' sb s::F):=by
 obtain⟨p,h⟩:=cX.1 h;have h:=h.o [7,0,1,2,3,4,5,6,8] 9;have h:=Ks hs h;exact cX.2 ⟨p,h.o [1,2,3,4,5,6,7,0,8] 9⟩
theorem T5{a:KQ}{c:Nat}{evs:List Ev}(h:aA H (Q::F))(W:∀H,aA H (Q::F)->aP H a (flat cw evs))(P:∀e∈evs,io Q e)(R:evs.length<=1000000)(E:∀e∈evs,e.labs.length<=1000000)
  (k:∀Q' I J b C,aM Q Q'->b.map Ev.p=evs.map Ev.p->(∀e∈b,io Q' e)->aA C (Q'::slA 99 4 I b.length J (flat cw b)::F)->K (.slice I b.length J) C) :
  CF 154 #[.slice a evs.length c] H K:=by
 refine OK ?_;refine S5 h W R λa1 c1 H1 h=>⟨_,_,_,rfl,?_⟩
 refine⟨λi C=>∃(j:Nat) (Q':aE) (b:List Ev),i=j/\j<=evs.length/\aM Q Q'/\b.map Ev.p=evs.map Ev.p/\(∀q (u:q<b.length),q<j->io Q' b[q])/\(∀q (u:q<b.length) (y:q<evs.length),j<=q->b[q]=evs[q])/\
  aA C (Q'::slA 99 4 a1 evs.length c1 (flat cw b)::F),λi _=>evs.length-i.toNat,
  ⟨0,Q,evs,rfl,by omega,aM.refl Q,rfl,λq _ h=>by omega,λ_ _ _ _=>rfl,h.o [1,0] 2⟩,?_⟩
 rintro i H2 ⟨j,Q',b,rfl,hj,m,f,t,n,h⟩;have B:b.length=evs.length:=by have:=congrArg List.length f;simpa using this
 refine⟨λG=>?_,λG=>?_⟩
 .have s:j<evs.length:=by have:=V4 G;omega
  have d:j<b.length:=by omega
  have L:=h.sl_rd 1 rfl;have A:=n j d s (VA _);refine⟨by omega,_,_,L.some fI (by omega) d,_,_,_,(by
   have:=L.el fI d 3 (v:=.slice b[j].la b[j].labs.length b[j].lc) rfl;rw[show aS a1+((j:Nat):Int).toNat*4+2+1=aS a1+j*4+3 by simp];exact this),?_⟩
  rw[A];refine S8 h (λH h=>((P _ (VF s)).sub m).at h 0 rfl) (E _ (VF s)) λV a2 c2 H3 w D h=>⟨_,_,_,rfl,by omega,?_⟩
  obtain⟨N,O,M⟩:=h.sl_set 1 rfl (j*4+3) [.slice a2 evs[j].labs.length c2] (by rw[fi fI];simp;omega) (by simp);refine⟨_,_,N,by rw[show aS a1+((j:Nat):Int).toNat*4+2+1=aS a1+(j*4+3) by simp[Ws]];exact O,?_⟩;intro H4 U;rw[aK (x:=(j:Int)+1)];have e:=yH fI (⟨evs[j].stamp,evs[j].value,evs[j].name,evs[j].labs,a2,c2⟩:Ev) [.slice a2 evs[j].labs.length c2] 3 (xs:=b) (k:=j) d (by simp) (by rw[A];rfl);rw[e]at M;refine⟨⟨j+1,V,b.set j ⟨evs[j].stamp,evs[j].value,evs[j].name,evs[j].labs,a2,c2⟩,by omega,s,m.trans w,?_,λq u Z=>?_,λq u y S=>?_,?_⟩,by dsimp only;omega⟩
  .rw [Ym,f];apply W3
   .simp
   .intro q h5 h6;rw[List.getElem_set]
    split
    .rename_i e5;subst e5;simp[Ev.p]
    .rfl
  .rw [List.getElem_set]
   split
   .exact D
   .exact (t q (by simpa using u) (by omega)).sub w
  .rw [List.getElem_set,nO];exact n q (by simpa using u) y (by omega)
  .rw [U,show aS a1+((j:Nat):Int).toNat*4+2+1=aS a1+(j*4+3) by simp[Ws]];exact M
 .have T:evs.length<=j:=by have:=V5 G;omega
  rw[<-B]at h ⊢;exact k Q' a1 c1 b _ m f (λe Y=>by
   obtain⟨q,u,rfl⟩:=Wu Y;exact t q u (by omega)) h
end
def Pv.z:Pv:=⟨0,0,⟨#[]⟩,[]⟩
structure JS where
 st:br
 ms:MS
 cm:CM
def uA(c:bD)(now a ep seq:Int)(x:JS)(e:Pv):JS×bI:=
 (⟨(eE c now a x.st x.ms x.cm e).st,(eE c now a x.st x.ms x.cm e).ms,(eE c now a x.st x.ms x.cm e).cm⟩,
  { kind:=3,ida:=a,ide:=ep,seq:=seq,reason:=(eE c now a x.st x.ms x.cm e).reason,win:=(eE c now a x.st x.ms x.cm e).win,gap:=(eE c now a x.st x.ms x.cm e).gap })
def dh(c:bD)(now a ep first:Int)(evs:List Pv)(x:JS):Nat->JS×List bI
 | 0=>(x,[])
 | n+1=>((uA c now a ep (first+n) (dh c now a ep first evs x n).1 (evs.getD n Pv.z)).1,(dh c now a ep first evs x n).2++[(uA c now a ep (first+n) (dh c now a ep first evs x n).1 (evs.getD n Pv.z)).2])
def kH(s:aI)(r:Rp)(st:br):JS×List bI:=dh s.cfg r.nw r.ag r.ep st.hs.next (st.hs.offer r.nx r.evs).2.1 ⟨{ st with hs:=(st.hs.offer r.nx r.evs).1 },s.ms,s.cm⟩ (st.hs.offer r.nx r.evs).2.1.length
def gE(s:aI)(r:Rp):aI×List bI:=match s.sts[r.ag.toNat]? with
 | some (some st)=>({ s with now:=r.nw,ms:=(kH s r st).1.ms,cm:=(kH s r st).1.cm,sts:=s.sts.set r.ag.toNat (some (kH s r st).1.st) },
   (kH s r st).2++[{ kind:=2,agent:=r.ag,epoch:=r.ep,next:=(st.hs.offer r.nx r.evs).1.next }])
 | _=>(s,[])
theorem xr(c:bD)(now a:Int)(st:br)(ms:MS)(cm:CM)(e:Pv):(eE c now a st ms cm e).st.ck=st.ck/\(eE c now a st ms cm e).st.hs=st.hs/\
  ((eE c now a st ms cm e).st.last=st.last\/(eE c now a st ms cm e).st.last=e.stamp):=by
 unfold eE
 split
 .exact⟨rfl,rfl,.inl rfl⟩
 split
 .exact⟨rfl,rfl,.inr rfl⟩
 split
 .exact⟨rfl,rfl,.inr rfl⟩
 split
 .exact⟨rfl,rfl,.inr rfl⟩
 split <;> exact⟨rfl,rfl,.inr rfl⟩
theorem Ba(g:Gd)(t:Int):aF (fP g t):=by
 unfold fP
 split
 .split <;> exact i64in _
 .unfold aF;decide
theorem Kt(g:Gd)(x:Gp):aF (dK g x).1/\aF (dK g x).2.1:=by
 unfold dK
 split
 .split
  .exact⟨Ba _ _,Ba _ _⟩
  .unfold aF;decide
 .unfold aF;decide
theorem wf_pick(g:Gd)(x:Gp):aF (mF g x).1:=by
 have h:=Kt g x;have z:aF 0:=by unfold aF;decide
 unfold mF
 split
 .exact z
 split
 .exact z
 split
 .exact h.1
 split
 .exact h.2
 split
 .exact Ba _ _
 split
 .exact z
 .exact h.1
theorem T6{c:bD}{now a:Int}{st:br}{ms:MS}{cm:CM}{e:Pv}(h:dX c.cells cm)(f:aF e.value):dX c.cells (eE c now a st ms cm e).cm:=by
 have b:=Kt c.gd (cQ st.ck (bG ms a) now e.stamp).1;have d:=wf_pick c.gd (cQ st.ck (bG ms a) now e.stamp).1;unfold eE
 split
 .exact h
 split
 .exact h
 split
 .exact h
 split
 .exact xp h b.1 b.2
 split
 .exact xp h b.1 b.2
 .exact Tz (xp h b.1 b.2) f d
theorem Bb{c:bD}{now a ep first:Int}{evs:List Pv}{x:JS}(h:dX c.cells x.cm)(f:∀e∈evs,aF e.value):∀n,n<=evs.length->
  dX c.cells (dh c now a ep first evs x n).1.cm/\(dh c now a ep first evs x n).1.st.ck=x.st.ck/\(dh c now a ep first evs x n).1.st.hs=x.st.hs/\(dh c now a ep first evs x n).2.length=n
 | 0,_=>⟨h,rfl,rfl,rfl⟩
 | n+1,hn=>by
  have b:=Bb (now:=now) (a:=a) (ep:=ep) (first:=first) h f n (by omega);have d:=xr c now a (dh c now a ep first evs x n).1.st (dh c now a ep first evs x n).1.ms (dh c now a ep first evs x n).1.cm (evs.getD n Pv.z);refine⟨T6 b.1 ?_,d.1.trans b.2.1,d.2.1.trans b.2.2.1,?_⟩
  .rw [ov _ (by omega)];exact f _ (VF _)
  .show (_++[_]).length=_;rw[V3,b.2.2.2];rfl
structure oB(Q:aE)(F:List aE)(r:Rp)(a:KQ)(evs:List Ev):Prop where
 eq:r.evs=evs.map Ev.p
 rd:∀H,aA H F->aP H a (flat cw evs)
 labs:∀e∈evs,io Q e
 len:evs.length<=1000000
 vals:∀e∈r.evs,aF e.value
section
variable {F L:List aE}{H:aD}{K KP:KE}{Q Q':aE}
theorem evOk_len{e:Pv}(h:gT e=true):e.labs.length<=8:=by
 unfold gT at h;rw[V7]at h
 conv=>whnf
 exact (mI h.2).len
theorem T7{sb:Nat}{s:aI}{r:Rp}{a:KQ}{c:Nat}{evs:List Ev}{st:br}(ok:cR s)(r0:0<=r.ag)(D:s.sts[r.ag.toNat]?=some (some st))(I:oB Q F r a evs)(h5:∀e∈r.evs,gT e=true)
  (l5:evs.length<=64) (h:aA H (Q::stA Q sb s::F))
  (k:∀Q' a' c' Z,aM Q Q'->aA Z (Q'::slA 305 87 a' (gE s r).2.length c' (flat dN (gE s r).2)::stA Q' sb (gE s r).1::F)->K (.slice a' (gE s r).2.length c') Z) :
  CF 70 #[PA sb 0,.agg ⟨de r a c⟩] H K:=by
 have V:((r.ag.toNat:Nat):Int)=r.ag:=by omega
 have f:=ok.sts st (Wg D);have h7:r.evs.length=evs.length:=by rw[I.eq,VH]
 unfold gE at k;rw[D]at k;dsimp only at k;refine OU ?_;refine h.al λb _ h=>⟨_,h.r 0,?_⟩
 have h:=h.o [2,1,0] 3;obtain⟨p,h⟩:=cX.1 h;refine h.st 0 rfl rfl ?_;intro H1 h;have h:=h.o [7,0,1,2,3,4,5,6,8,9,10] 11;obtain⟨P,bl,B,h⟩:=qK h D;have h:=h.o [1,0,2,3,4,5,6,7,8,9,10,11,12] 13;obtain⟨cb,hb,h⟩:=gW.1 h;have A:=qL B h 3 rfl;rw[V]at A;refine⟨_,h.r 5,_,h.r 14,_,A,cZ ⟨_,h.r 0,_,uq (h.o [2] 3),cZ ⟨_,h.r 0,_,h.r 14,_,_,_,h.r 14,?_⟩⟩⟩;have h:=h.o [13,0,1,2,3,4,5,6,7,8,9,10,11,12,14] 15;rw[h7];refine T5 h (λH h=>I.rd H (h.o [] 15)) I.labs (by omega) (λe he=>?_) λE a1 c1 w H2 C Y j1 h=>⟨_,_,_,rfl,h.r 15,h.r 2,?_⟩
 .have:=evOk_len (h5 e.p (by rw[I.eq];exact VB.2 ⟨e,he,rfl⟩));show e.p.labs.length<=1000000;omega
 have l0:w.length=evs.length:=by have:=congrArg List.length Y;simpa using this
 have h:=h.o [4,0,1,2,3,5,6,7,8,9,10,11,12,13,14,15] 16;have h:=AC C h;have S:w.map Ev.p=r.evs:=by rw[Y,I.eq]
 refine J7 (items:=w) h f.hs (by have:=f.next;omega) (λH h=>h.sl_rd 1 rfl) j1 (by omega) λa2 c2 ready H3 t L h=>⟨_,_,_,_,rfl,?_⟩
 rw[S]at t h;have N:(st.hs.offer r.nx r.evs).2.1.length=ready.length:=by rw[<-t,VH]
 unfold kH at k;rw[N]at k;generalize hO:st.hs.offer r.nx r.evs=O at *;have hv:∀e∈O.2.1,aF e.value:=by
  intro e he;rw[<-hO]at he
  rcases (uo (s:=st.hs) (first:=r.nx) (items:=r.evs)).1 e he with h|⟨q,h,rfl⟩
  .exact I.vals e h
  .exact (f.rows q h).2.2
 have r8:ready.length<=1000000:=by
  have h1:=J6 (s:=st.hs) (first:=r.nx) (items:=r.evs);rw[hO,N]at h1;have h2:=f.hs.rows.length;have h3:=f.hs.most2;omega
 have W:=λn hn=>Bb (c:=s.cfg) (now:=r.nw) (a:=r.ag) (ep:=r.ep) (first:=st.hs.next) (evs:=O.2.1) (x:=⟨{ st with hs:=O.1 },s.ms,s.cm⟩) ok.sh hv n hn
 generalize hG:dh s.cfg r.nw r.ag r.ep st.hs.next O.2.1 ⟨{ st with hs:=O.1 },s.ms,s.cm⟩=G at *;refine⟨λla d lc i Z=>∃j:Nat,i=j/\j<=ready.length/\d=j/\
  aA Z (cellsA sb (dq { s with now:=r.nw } p) 145::Ma.markC p.mb p.mm (G j).1.ms::Ma.mapF p.mm (G j).1.ms.m::shC p.hb p.hm s.cfg.cells::cz p.hm (G j).1.cm::cellsA P [PA cb 0,PA hb 0,aC (G j).1.st.last] 173::ckA cb st.ck::
   slA 305 87 la j lc (flat dN (G j).2)::slA 99 4 a2 ready.length c2 (flat cw ready)::hldA E hb O.1::E::mapA aC ptV p.tm (cW 0 bl)::lR Q bl s.sts r.ag.toNat::Ro.rollC p.rb p.rm s.cfg.agents::Ro.mapE p.rm s.rows::slA 164 74 p.ka s.kept.length p.kc (flat cI s.kept)::cellsA b (de r a c) 61::F),
  λ_ _ _ i _=>ready.length-i.toNat,⟨0,rfl,by omega,rfl,?_⟩,?_⟩
 .have h0:G 0=(⟨{ st with hs:=O.1 },s.ms,s.cm⟩,[]):=by rw[<-hG];rfl
  rw[h0];exact (h.sl_nil 305 87).o [9,12,13,14,15,5,6,0,1,2,3,7,8,10,11,16,17] 18
 rintro la d lc i H4 ⟨j,rfl,hj,rfl,h⟩;obtain⟨h8,y,j2,T⟩:=W d (by omega);refine⟨λhc=>?_,λhc=>?_⟩
 .have v:d<ready.length:=by have:=V4 hc;omega
  have U:=h.sl_rd 8 rfl;refine⟨by omega,_,_,U.some fI (by omega) v,_,_,_,_,_,_,U.els fI v,?_⟩;refine h.al λb2 _ h=>?_
  refine h.st 0 rfl rfl ?_;intro H5 h;refine⟨_,h.r 17,_,_,_,_,_,_,h.q 0,?_⟩;have h:=h.o [1,2,3,4,5,6,7,0,8,9,10,11,12,13,14,15,16,17] 18;have h9:O.2.1.getD d Pv.z=ready[d].p:=by
   rw[ov _ (by omega)];simp only[<-t,Wx]
  have h4:aF ready[d].value:=by
   have:=hv ready[d].p (by rw[<-t];exact VB.2 ⟨_,VF v,rfl⟩);exact this
  have R:(G d).1.st.ck.smps.length<=8:=by rw[y];exact f.ck.len
  rw[<-show (G d).1.st.ck=st.ck from y]at h;refine T4 (c:=s.cfg) (now:=r.nw) (a:=r.ag) (st:=(G d).1.st) (e:=ready[d]) (mm:=p.mm) (p_mb:=p.mb) (p_hb:=p.hb) (p_hm:=p.hm) R h8 h4 rfl rfl rfl rfl (λH h=>(L _ (VF v)).at h 4 rfl) h λH6 h=>⟨_,_,_,_,rfl,?_⟩
  rw[show (G d).1.st.ck=st.ck from y]at h;have M:G (d+1)=((uA s.cfg r.nw r.ag r.ep (st.hs.next+d) (G d).1 ready[d].p).1,(G d).2++[(uA s.cfg r.nw r.ag r.ep (st.hs.next+d) (G d).1 ready[d].p).2]):=by
   rw[<-h9,<-hG];rfl
  unfold uA at M;generalize eE s.cfg r.nw r.ag (G d).1.st (G d).1.ms (G d).1.cm ready[d].p=J at *;refine h.al λb3 _ h=>?_
  refine h.al λb4 _ h=>?_
  refine h.st 1 rfl rfl ?_;intro H7 h;refine h.st 0 rfl rfl ?_;intro H8 h;refine⟨_,h.r 19,_,h.r 19,?_⟩;refine h.al λb5 _ h=>?_
  refine h.st 0 rfl rfl ?_;intro H9 h;refine⟨_,_,_,h.q 0,_,_,h.q 2,_,_,h.q 1,?_⟩;refine h.al λb6 _ h=>?_
  have l6:=f.next;have j3:=f.hs.next0;have hw:i64.wrap (st.hs.next+(d:Int))=st.hs.next+d:=aK;rw[hw]at h;refine h.append (m:=1) (ws:=dN { kind:=3,ida:=r.ag,ide:=r.ep,seq:=st.hs.next+d,reason:=J.reason,win:=J.win,gap:=J.gap }) sl39 12 rfl (h.ce_rd 0 rfl) rfl (uz _) (by omega) (by omega) λa5 c5 u h=>⟨_,_,_,rfl,?_⟩
  rw[aK (x:=(d:Int)+1)];refine⟨⟨d+1,by omega,v,rfl,?_⟩,by dsimp only;omega⟩;rw[M];have e:flat dN ((G d).2++[{ kind:=3,ida:=r.ag,ide:=r.ep,seq:=st.hs.next+d,reason:=J.reason,win:=J.win,gap:=J.gap }])=flat dN (G d).2++dN { kind:=3,ida:=r.ag,ide:=r.ep,seq:=st.hs.next+d,reason:=J.reason,win:=J.win,gap:=J.gap }:=by
   rw[dR];simp[flat]
  dsimp only;rw[e];exact h.o [4,5,6,7,8,9,10,12,13,14,15,16,17,18,19,20,21] 22
 .have h6:d=ready.length:=by have:=V5 hc;omega
  subst h6;refine⟨_,h.r 16,_,h.r 16,cZ ⟨_,h.r 5,_,uq (h.o [9] 10),?_⟩⟩;refine h.al λb7 _ h=>?_
  refine h.append (m:=1) (ws:=dN { kind:=2,agent:=r.ag,epoch:=r.ep,next:=O.1.next }) sl39 8 rfl (h.ce_rd 0 rfl) rfl (uz _) (by omega) (by omega) λa5 c5 u h=>⟨_,_,_,rfl,?_⟩
  have e:flat dN ((G ready.length).2++[{ kind:=2,agent:=r.ag,epoch:=r.ep,next:=O.1.next }])=flat dN (G ready.length).2++dN { kind:=2,agent:=r.ag,epoch:=r.ep,next:=O.1.next }:=by
   rw[dR];simp[flat]
  have hk:=k E a5 c5 u C;rw[V3,T,e]at hk;refine hk ?_;have h:=h.o [13,6,7,10,12,1,14,15,2,3,4,5,16,11,8] 18;have h:aA u (lR E bl s.sts r.ag.toNat::_):=ux C h;have h:=h.o [1,2,3,4,0,5,6,7,8,9,10,11,12,13,14] 15;have h:aA u (strA E P (G ready.length).1.st::_):=gW.2 ⟨cb,hb,by rw[y,j2];exact h⟩;have h:=h.o [1,0,2,3,4,5,6,7,8,9,10,11,12] 13;have h:=sE B h;have h:=h.o [1,2,3,4,5,6,7,0,8,9,10] 11;have h:aA u (stA E sb { s with now:=r.nw,ms:=(G ready.length).1.ms,cm:=(G ready.length).1.cm,sts:=s.sts.set r.ag.toNat (some (G ready.length).1.st) }::_):=cX.2 ⟨p,h⟩;exact h.o [1,2,0] 3
end
def Ot.z:Ot:=(⟨0,⟨#[]⟩⟩,Cl.z)
def dO(first:Int)(outs:List Ot):Nat->List bI
 | 0=>[]
 | n+1=>dO first outs n++[{ kind:=4,number:=first+n,out:=outs.getD n Ot.z }]
theorem nU(first:Int)(a:List Ot):∀n,(dO first a n).length=n
 | 0=>rfl
 | n+1=>by
  show (dO first a n++[_]).length=_;rw[V3,nU first a n];rfl
abbrev aI.next(s:aI):Int:=s.sunk+(s.kept.length:Int)
def dv(s:aI)(now:Int):List Ot:=iC s.cm (fP s.cfg.gd (s.ms.tick now).1.value)
def kI(s:aI)(now:Int):aI×List bI:=
 ({ s with now:=now,ms:=(s.ms.tick now).1,cm:=nN s.cm (fP s.cfg.gd (s.ms.tick now).1.value),kept:=s.kept++dv s now },dO s.next (dv s now) (dv s now).length)
def lT(s:aI)(r:Rp):aI:=match s.sts[r.ag.toNat]? with
 | some (some st)=>if r.nx≠st.hs.next\/r.st<st.last\/st.ck.held=true then { s with now:=r.nw } else
   if (cQ st.ck (bG s.ms r.ag) r.nw r.st).2≠0 then { s with now:=r.nw } else
   { s with now:=r.nw,ms:=(s.ms.raise r.ag (cQ st.ck (bG s.ms r.ag) r.nw r.st).1.lo).1,sts:=s.sts.set r.ag.toNat (some { st with last:=r.st }) }
 | _=>s
section
variable {F L:List aE}{H:aD}{K KP:KE}{Q Q':aE}
theorem Ku{sb:Nat}{s:aI}{p:SAd}(h:aA H F)(i:Nat)(a:aW i F=cellsA sb (dq s p) 145)(h0:0<=s.sunk)(hs:s.sunk<=4611686018427387903)(b:s.kept.length<=1000000000000) :
  bV Tryz.prog 140 #[PA sb 0] H (aC s.next):=by
 refine cM 140 28 ⟨_,h.rd i a _,_,_,_,h.rd i a _,?_,rfl⟩;rw[aK];rfl
theorem Tick_spec{sb:Nat}{s:aI}{now:Int}(ok:cR s)(hs:s.sunk<=4611686018427387903)(I:s.kept.length<=100000000000)(h:aA H (stA Q sb s::F))
  (k:∀A B f,aA f (slA 305 87 A (kI s now).2.length B (flat dN (kI s now).2)::stA Q sb (kI s now).1::F)->K (.slice A (kI s now).2.length B) f) :
  CF 72 #[PA sb 0,aC now] H K:=by
 obtain⟨p,h⟩:=cX.1 h;refine OS ?_;refine h.st 0 rfl rfl ?_;intro U h;refine⟨_,h.r 0,?_⟩;have h:=h.o [3,4,0,1,2,5,6,7,8] 9;refine Ma.Tick_spec ok.ms h λP h=>⟨_,rfl,_,h.r 2,_,_,_,h.q 2,_,h.r 2,_,Ma.Value_spec h 0 rfl,?_⟩
 unfold kI dv at k;generalize hM:(s.ms.tick now).1=M at *;refine wF (g:=s.cfg.gd) h λR h=>⟨_,rfl,h.r 2,?_⟩
 have D:=ok.sh.len;have E:=ok.sh.m2;generalize fP s.cfg.gd M.value=W at *;have h:=h.o [5,6,0,1,2,3,4,7,8] 9;refine Si (by omega) h λL J S h=>⟨_,_,_,rfl,?_⟩
 have G:(iC s.cm W).length<=1024:=by
  have N:(iC s.cm W).length<=(bA s.cm).length:=by unfold iC;exact (List.takeWhile_sublist _).length_le
  have T:(bA s.cm).length=s.cm.length:=by unfold bA;rw[VH,uj];simp[aG]
  omega
 generalize hO:iC s.cm W=O at *;generalize nN s.cm W=C at *;refine⟨λla a lc i f=>∃(j:Nat) (ka:KQ) (kc:Nat),i=j/\j<=O.length/\a=j/\
  aA f (slA 305 87 la j lc (flat dN (dO s.next O j))::slA 164 74 L O.length J (flat cI O)::cellsA sb (dq { s with now:=now,kept:=s.kept++O.take j } { p with ka:=ka,kc:=kc }) 145::Ro.rollC p.rb p.rm s.cfg.agents::Ro.mapE p.rm s.rows::Ma.markC p.mb p.mm M::Ma.mapF p.mm M.m::shC p.hb p.hm s.cfg.cells::cz p.hm C::strmA Q p.tm s.sts::
   slA 164 74 ka (s.kept++O.take j).length kc (flat cI (s.kept++O.take j))::F),
  λ_ _ _ i _=>O.length-i.toNat,⟨0,p.ka,p.kc,rfl,by omega,rfl,?_⟩,?_⟩
 .rw [Yc,Wc];exact (h.sl_nil 305 87).o [0,1,6,7,8,4,5,2,3,9,10] 11
 rintro la a lc i w ⟨j,ka,kc,rfl,hj,rfl,h⟩;have c:(O.take a).length=a:=by rw[VU];omega
 refine⟨λv=>?_,λv=>?_⟩
 .have b:a<O.length:=by have:=V4 v;omega
  have e:=h.sl_rd 1 rfl;have d:=e.els iX b;refine⟨by omega,_,_,e.some iX (by omega) b,_,_,_,_,_,_,_,_,_,_,d,?_⟩;refine h.al λb1 _ h=>?_
  refine h.sta 0 rfl rfl λV h=>?_
  have t:=ok.sunk;refine⟨_,Ku (s:=({ s with now:=now,kept:=s.kept++O.take a }:aI)) (p:={ p with ka:=ka,kc:=kc }) h 3 rfl t hs (by show (s.kept++O.take a).length<=_;rw[V3,c];omega),?_⟩;have n:({ s with now:=now,kept:=s.kept++O.take a }:aI).next=s.next+a:=by
   show s.sunk+((s.kept++O.take a).length:Int)=s.sunk+(s.kept.length:Int)+a;rw[V3,c];omega
  rw[n];refine⟨_,_,_,_,_,_,_,_,_,_,h.rda 0 rfl,?_⟩;refine h.al λb2 _ h=>?_
  refine h.append (m:=1) (ws:=dN { kind:=4,number:=s.next+a,out:=O[a] }) sl39 2 rfl (h.ce_rd 0 rfl) rfl (uz _) (by omega) (by omega) λa5 c5 H7 h=>⟨_,_,_,rfl,?_⟩
  refine⟨_,_,_,h.r 4,_,_,_,_,_,_,_,_,_,_,h.rda 1 rfl,?_⟩;refine h.al λb3 _ h=>⟨h.r 5,?_⟩
  refine h.append (m:=1) (ws:=cI O[a]) sl86 13 rfl (h.ce_rd 0 rfl) rfl (sf _) (by rw[V3,c];omega) (by rw[V3,c];omega) λa6 c6 Y h=>⟨_,_,_,rfl,?_⟩
  refine h.st 5 rfl rfl ?_;intro Z h;rw[aK (x:=(a:Int)+1)];refine⟨⟨a+1,a6,c6,by omega,b,rfl,?_⟩,by dsimp only;omega⟩;have e1:dO s.next O (a+1)=dO s.next O a++[{ kind:=4,number:=s.next+a,out:=O[a] }]:=by
   show dO s.next O a++[({ kind:=4,number:=s.next+a,out:=O.getD a Ot.z }:bI)]=_;rw[ov _ b]
  have e2:flat dN (dO s.next O (a+1))=flat dN (dO s.next O a)++dN { kind:=4,number:=s.next+a,out:=O[a] }:=by
   rw[e1,dR];simp[flat]
  have e3:s.kept++O.take (a+1)=(s.kept++O.take a)++[O[a]]:=by rw[Wj b,VI]
  have e4:flat cI (s.kept++O.take (a+1))=flat cI (s.kept++O.take a)++cI O[a]:=by
   rw[e3,dR];simp[flat]
  have e5:(s.kept++O.take (a+1)).length=(s.kept++O.take a).length+1:=by rw[e3,V3];rfl
  have e6:dq ({ s with now:=now,kept:=s.kept++O.take (a+1) }:aI) { p with ka:=a6,kc:=c6 }=cv (dq ({ s with now:=now,kept:=s.kept++O.take a }:aI) { p with ka:=ka,kc:=kc }) 19 [.slice a6 ((s.kept++O.take a).length+1) c6]:=by
   simp only[dq,e5];rfl
  rw[e2,e4,e5,e6];exact h.o [3,4,5,6,7,8,9,10,11,12,13] 14
 .have u:a=O.length:=by have:=V5 v;omega
  subst u;rw[Wf]at h;have y:=k la lc w;rw[nU]at y;refine y ?_;have h:=h.o [2,3,4,5,6,7,8,9,10,0] 11;have h:aA w (stA Q sb { s with now:=now,ms:=M,cm:=C,kept:=s.kept++O }::_):=cX.2 ⟨{ p with ka:=ka,kc:=kc },h⟩;exact h.o [1,0] 2
theorem T8{sb:Nat}{s:aI}{r:Rp}{a:KQ}{c:Nat}{st:br}(ok:cR s)(C:0<=r.ag)(f:s.sts[r.ag.toNat]?=some (some st))(h:aA H (stA Q sb s::F))
  (k:∀v,aA v (stA Q sb (lT s r)::F)->K (.tuple #[]) v) :
  CF 71 #[PA sb 0,.agg ⟨de r a c⟩] H K:=by
 have x:((r.ag.toNat:Nat):Int)=r.ag:=by omega
 have y:=ok.sts st (Wg f);unfold lT at k;rw[f]at k;dsimp only at k;refine OT ?_;refine h.al λb _ h=>⟨_,h.r 0,?_⟩
 have h:=h.o [1,0] 2;obtain⟨p,h⟩:=cX.1 h;refine h.st 0 rfl rfl ?_;intro I h;have h:=h.o [7,0,1,2,3,4,5,6,8,9] 10;obtain⟨A,bl,n,h⟩:=qK h f;have h:=h.o [1,0,2,3,4,5,6,7,8,9,10,11] 12;obtain⟨cb,hb,h⟩:=gW.1 h;have u:=qL n h 3 rfl;rw[x]at u;have e:∀(ms:MS) (i:br) v,aA v (cellsA A [PA cb 0,PA hb 0,aC i.last] 173::ckA cb i.ck::hldA Q hb i.hs::mapA aC ptV p.tm (cW 0 bl)::lR Q bl s.sts r.ag.toNat::cellsA sb (dq { s with now:=r.nw } p) 145::Ro.rollC p.rb p.rm s.cfg.agents::Ro.mapE p.rm s.rows::Ma.markC p.mb p.mm ms::Ma.mapF p.mm ms.m::shC p.hb p.hm s.cfg.cells::cz p.hm s.cm::slA 164 74 p.ka s.kept.length p.kc (flat cI s.kept)::F)->
   aA v (stA Q sb { s with now:=r.nw,ms:=ms,sts:=s.sts.set r.ag.toNat (some i) }::F):=by
  intro ms i v h;have h:=gW.2 ⟨cb,hb,h⟩;have h:=h.o [1,0,2,3,4,5,6,7,8,9,10] 11;have h:=sE n h;exact cX.2 ⟨p,h.o [1,2,3,4,5,6,7,0,8] 9⟩
 have j:s.sts.set r.ag.toNat (some st)=s.sts:=by
  have B:r.ag.toNat<s.sts.length:=(List.getElem?_eq_some_iff.1 f).1;have:s.sts[r.ag.toNat]=some st:=by rw[List.getElem?_eq_getElem B]at f;exact Option.some.inj f
  rw[<-this,WN]
 refine⟨_,h.r 5,_,h.r 13,_,u,_,h.r 13,cZ ⟨_,h.r 0,_,uq (h.o [2] 3),_,λ_=>h.r 13,λ_=>trivial,_,λ_=>h.r 0,λ_=>trivial,_,λ_=>h.rd 0 rfl 0,_,λ_=>uf (h.o [1] 2),λd=>?_,λd=>?_⟩⟩
 .have d:r.nx≠st.hs.next\/r.st<st.last\/st.ck.held=true:=by
   simp only[VN,VY,V8,V6]at d
   rcases d with (d|d)|d
   .exact .inl d
   .exact .inr (.inl d)
   .exact .inr (.inr d)
  rw[V1 d]at k;have h:=e s.ms st _ (h.o [0,1,2,3,4,5,6,7,8,9,10,11,12] 14);rw[j]at h;exact k _ h
 have d:¬(r.nx≠st.hs.next\/r.st<st.last\/st.ck.held=true):=by
  simp only[VK,Wm,V8,V6]at d;rintro (w|w|w)
  .exact w d.1.1
  .exact d.1.2 w
  .rw [d.2]at w;cases w
 rw[V0 d]at k;refine⟨_,h.r 13,_,h.r 13,?_⟩;have h:=h.o [5,8,9,0,1,2,3,4,6,7,10,11,12,13] 14;refine Kp (a:=r.ag) (stamp:=r.st) (now:=r.nw) y.ck.len rfl rfl h λE h=>⟨_,_,_,rfl,?_⟩
 generalize cQ st.ck (bG s.ms r.ag) r.nw r.st=T at *;refine h.al λb1 _ h=>?_
 refine h.st 0 rfl rfl ?_;intro G h;refine⟨λd=>?_,λd=>?_⟩
 .rw [V1 (by simpa using d)]at k;have h:=e s.ms st _ (h.o [4,5,6,7,8,1,9,10,2,3,11,12,13] 15);rw[j]at h;exact k _ h
 .rw [V0 (by simpa using d)]at k;refine⟨_,h.r 14,cZ ?_⟩;refine h.st 4 rfl rfl ?_;intro D h;refine⟨_,h.r 1,_,h.r 14,_,h.r 0,?_⟩;have h:=h.o [2,3,0,1,4,5,6,7,8,9,10,11,12,13,14] 15;refine Ma.Raise_spec (a:=r.ag) (t:=T.1.lo) h λJ h=>⟨_,rfl,?_⟩
  exact k _ (e _ { st with last:=r.st } _ (h.o [4,5,6,7,8,3,9,10,0,1,11,12,13] 15))
end
def isE(s:aI)(a ep:Int):Bool:=decide (0<(bg s.rows a).epoch)&&decide ((bg s.rows a).epoch=ep)
def dP(s:aI)(a:Int):Option br:=if a<0 then none else (s.sts[a.toNat]?).join
def sG(s:aI)(r:Rp)(now:Int):Int:=
 if 0<r.ep/\isE s r.ag r.ep=false then 22 else
 if now<s.now then 11 else
 if r.kind=4 then (match dP s r.ag with
  | some st=>if st.ck.smps.length=0/\st.ck.held=false then 19 else 0
  | none=>0) else 0
def fB(s:aI)(r:Rp):Int:=
 if r.kind=1 then (if 1099511627776<=s.boots then 17 else 0) else
 if r.kind=7 then (if s.next<r.nx then 11 else 0) else
 sG s r (if r.kind=3 then r.sm.came else r.nw)
structure RLim(r:Rp):Prop where
 kind:1<=r.kind/\r.kind<=7
 ag:0<=r.ag/\r.ag<=63
 ep:(r.kind=3\/r.kind=4\/r.kind=5->1<=r.ep)/\0<=r.ep/\r.ep<=1099511627776
 bt:(r.kind=2->1<=r.bt)/\0<=r.bt/\r.bt<=1099511627776
 nx:0<=r.nx/\r.nx<=1099511627776
 st:0<=r.st/\r.st<=4611686018427387903
 nw:isT r.nw
 sm:r.sm.ok
 evs:r.kind=4->gU r.nx r.evs=true
 none:r.kind≠4->r.evs=[]
theorem iF{r:Rp}(h:r.right=true):RLim r:=by
 unfold Rp.right at h;rw[V7,V7,V7]at h;obtain⟨⟨⟨j,s⟩,d⟩,i⟩:=h;unfold Rp.lim at i;simp only[inM,V7,V6]at j i;obtain⟨⟨⟨⟨⟨⟨m,c⟩,b⟩,n⟩,k⟩,e⟩,f⟩:=i;refine⟨j,m,⟨λa=>?_,?_,c.2⟩,⟨λa=>?_,?_,b.2⟩,n,k,e,f,λa=>?_,λa=>?_⟩
 .rw [V1 a]at c;exact c.1
 .have:=c.1;split at this <;> omega
 .rw [V1 a]at b;exact b.1
 .have:=b.1;split at this <;> omega
 .rw [V1 a]at d;exact d
 .rw [V0 a]at d;exact WH.1 (V4 d)
theorem rowE_at{rows:List En}{a:Int}(h:0<(bg rows a).epoch):0<=a/\∃e,rows[a.toNat]?=some e/\0<e.epoch:=by
 unfold bg at h
 split at h
 .simp [En.z]at h
 .refine⟨by omega,?_⟩
  cases e:rows[a.toNat]? with
  | none=>rw[e]at h;simp[En.z]at h
  | some x=>rw[e]at h;exact⟨x,rfl,h⟩
theorem cR.str{s:aI}(ok:cR s){a:Int}(h:0<(bg s.rows a).epoch):0<=a/\∃st,s.sts[a.toNat]?=some (some st):=by
 obtain⟨h0,e,c,b⟩:=rowE_at h;exact⟨h0,(ok.reg a.toNat).2 ⟨e,c,b⟩⟩
theorem xt{s:aI}{a:Int}{st:br}(h0:0<=a)(h:s.sts[a.toNat]?=some (some st)):dP s a=some st:=by
 unfold dP;rw[nO,h];rfl
section
variable {F L:List aE}{H:aD}{K KP:KE}{Q Q':aE}
theorem T9{sb:Nat}{s:aI}{r:Rp}{a:KQ}{c:Nat}(ok:cR s)(hs:s.sunk<=4611686018427387903)(h0:s.kept.length<=100000000000)(hr:r.right=true)(h:aA H (stA Q sb s::F))
  (k:∀f,aA f (stA Q sb s::F)->K (aC (fB s r)) f) :
  CF 65 #[PA sb 0,.agg ⟨de r a c⟩] H K:=by
 refine cN 65 0x1121513dc13dc17492283c9d2171b9c [[],[(44,sB)],[(5,sI)]] ?_;refine h.al λb H0 h=>⟨_,h.r 0,?_⟩
 have h:=h.o [1,0] 2;obtain⟨p,h⟩:=cX.1 h;have fin:∀f,aA f (cellsA sb (dq s p) 145::Ro.rollC p.rb p.rm s.cfg.agents::Ro.mapE p.rm s.rows::Ma.markC p.mb p.mm s.ms::Ma.mapF p.mm s.ms.m::shC p.hb p.hm s.cfg.cells::cz p.hm s.cm::strmA Q p.tm s.sts::slA 164 74 p.ka s.kept.length p.kc (flat cI s.kept)::cellsA b (de r a c) 61::F)->aA f (stA Q sb s::F):=λf h=>by
  have h:=cX.2 ⟨p,h⟩;exact h.o [0] 2
 unfold fB at k;refine⟨_,h.r 9,λI=>?_,λI=>⟨λw=>?_,λw=>?_⟩⟩
 .rw [V1 (V4 I)]at k;refine⟨_,h.r 0,λhb=>?_,λhb=>?_⟩
  .rw [V1 (V4 hb)]at k;exact k _ (fin _ h)
  .rw [V0 (V5 hb)]at k;exact k _ (fin _ h)
 .rw [V0 (V5 I),V1 (V4 w)]at k;refine⟨_,h.r 9,_,Ku h 0 rfl ok.sunk hs (by omega),λhb=>?_,λhb=>?_⟩
  .rw [V1 (V4 hb)]at k;exact k _ (fin _ h)
  .rw [V0 (V5 hb)]at k;exact k _ (fin _ h)
 rw[V0 (V5 I),V0 (V5 w)]at k;have U:=iF hr;intro S T;have j:∀now,(∀f,aA f (stA Q sb s::F)->K (aC (sG s r now)) f)->S now H0:=by
  intro now k;refine T _ _ ?_;intro L N;unfold sG at k;have E:∀(t:Bool) f,t=decide (0<r.ep/\isE s r.ag r.ep=false)->aA f (cellsA sb (dq s p) 145::Ro.rollC p.rb p.rm s.cfg.agents::Ro.mapE p.rm s.rows::Ma.markC p.mb p.mm s.ms::Ma.mapF p.mm s.ms.m::shC p.hb p.hm s.cfg.cells::cz p.hm s.cm::strmA Q p.tm s.sts::slA 164 74 p.ka s.kept.length p.kc (flat cI s.kept)::cellsA b (de r a c) 61::F)->L t f:=by
   rintro t f rfl h;refine N _ _ ?_;refine⟨λB=>?_,λB=>?_⟩
   .rw [V1 (V4 B)]at k;exact k _ (fin _ h)
   have B:=V5 B;rw[V0 B]at k;refine⟨_,h.r 0,λJ=>?_,λJ=>?_⟩
   .rw [V1 (V4 J)]at k;exact k _ (fin _ h)
   rw[V0 (V5 J)]at k;refine⟨_,h.r 9,?_⟩;intro Z C;refine⟨λA=>?_,λA=>?_⟩
   .have A:=V4 A;rw[V1 A]at k;have Y:=U.ep.1 (.inr (.inl A));have v:isE s r.ag r.ep=true:=by
     cases e:isE s r.ag r.ep
     .exact V2 ⟨by omega,e⟩ B
     .rfl
    unfold isE at v;rw[V7]at v;obtain⟨P,st,i⟩:=ok.str (V4 v.1);rw[xt P i]at k;dsimp only at k;have G:=ok.sts st (Wg i);have D:((r.ag.toNat:Nat):Int)=r.ag:=by omega
    have h:=h.o [7,0,1,2,3,4,5,6,8,9] 10;obtain⟨W,bl,n,h⟩:=qK h i;have h:=h.o [1,0,2,3,4,5,6,7,8,9,10,11] 12;obtain⟨cb,hb,h⟩:=gW.1 h;have u:=qL n h 3 rfl;rw[D]at u;have x:s.sts.set r.ag.toNat (some st)=s.sts:=by
     have M:r.ag.toNat<s.sts.length:=(List.getElem?_eq_some_iff.1 i).1;have:s.sts[r.ag.toNat]=some st:=by rw[List.getElem?_eq_getElem M]at i;exact Option.some.inj i
     rw[<-this,WN]
    conv=>whnf
    refine⟨_,h.r 5,_,h.r 13,_,u,⟨_,h.rd 0 rfl 0,?_⟩⟩;have h:=h.o [1,0,2,3,4,5,6,7,8,9,10,11,12,13] 14;have V:=G.ck.len;refine Ad h (by omega) λsa sc R h=>⟨_,_,_,rfl,λ_=>trivial,_,λ_=>h.rd 2 rfl 0,_,λ_=>uf (h.o [1] 2),?_⟩
    have back:aA R (cellsA sb (dq s p) 145::Ro.rollC p.rb p.rm s.cfg.agents::Ro.mapE p.rm s.rows::Ma.markC p.mb p.mm s.ms::Ma.mapF p.mm s.ms.m::shC p.hb p.hm s.cfg.cells::cz p.hm s.cm::strmA Q p.tm s.sts::slA 164 74 p.ka s.kept.length p.kc (flat cI s.kept)::cellsA b (de r a c) 61::F):=by
     have h:=h.o [2,1,3,4,5,6,7,8,9,10,11,12,13,14] 15;have h:=gW.2 ⟨cb,hb,h⟩;have h:=h.o [1,0,2,3,4,5,6,7,8,9,10,11] 12;have h:=sE n h;rw[x]at h;exact h.o [1,2,3,4,5,6,7,0,8,9] 10
    refine⟨λd=>?_,λd=>?_⟩
    .have d:st.ck.smps.length=0/\st.ck.held=false:=by
      simp only[V7,V6,VY]at d;exact⟨by omega,d.2⟩
     rw[V1 d]at k;exact k _ (fin _ back)
    .have d:¬(st.ck.smps.length=0/\st.ck.held=false):=by
      rintro⟨h1,h2⟩;rw[h1,h2]at d;simp at d
     rw[V0 d]at k;refine C _ ?_;exact k _ (fin _ back)
   .rw [V0 (V5 A)]at k;refine C _ ?_;exact k _ (fin _ h)
  refine⟨_,h.r 9,λ_=>trivial,_,λ_=>h.r 0,_,λ_=>h.r 9,_,λ_=>h.r 9,λy=>?_,λy=>?_⟩
  .have y:=V4 y;have h:=h.o [1,2,0,3,4,5,6,7,8,9] 10;refine Ro.Is_spec ok.rows (agent:=r.ag) (epoch:=r.ep) h λR h=>⟨_,rfl,?_⟩
   refine E _ _ ?_ (h.o [2,0,1,3,4,5,6,7,8,9] 10);show (!isE s r.ag r.ep)=_;rw[Wi,V6]
   constructor
   .intro d;exact⟨y,by simpa using d⟩
   .rintro⟨_,d⟩;rw[d];rfl
  .have y:¬0<r.ep:=λd=>y (VS d)
   refine E _ _ ?_ h
   symm
   exact Wp λd=>y d.1
 refine⟨λO=>?_,λO=>?_⟩
 .rw [V1 (V4 O)]at k;exact⟨_,h.r 9,j _ k⟩
 .rw [V0 (V5 O)]at k;exact j _ k
end
def lU(c:bD):br:=⟨⟨c.rho,c.trust,false,0,[]⟩,⟨0,c.hold,[]⟩,-1⟩
def pD(a ep n:Int):bI:={ kind:=3,ida:=a,ide:=ep,seq:=n,reason:=5 }
def jp(s:aI)(a:Int):List bI:=match dP s a with
 | some st=>(aG st.hs.rows).map (pD a (bg s.rows a).epoch)
 | none=>[]
def gX(s:aI)(a:Int):MS:=match dP s a with
 | some _=>(s.ms.leave a).1
 | none=>s.ms
def fC(s:aI)(r:Rp):aI×List bI×Int:=
 if (grant s.cfg.agents s.rows r.ag r.bt r.nw).2.2.2≠0 then (s,[],(grant s.cfg.agents s.rows r.ag r.bt r.nw).2.2.2) else
 if (grant s.cfg.agents s.rows r.ag r.bt r.nw).2.2.1 then
  ({ s with now:=r.nw,rows:=(grant s.cfg.agents s.rows r.ag r.bt r.nw).1,ms:=((gX s r.ag).join r.ag r.nw).1,sts:=s.sts.set r.ag.toNat (some (lU s.cfg)) },
   jp s r.ag++[{ kind:=1,agent:=r.ag,epoch:=(grant s.cfg.agents s.rows r.ag r.bt r.nw).2.1.epoch,boot:=(grant s.cfg.agents s.rows r.ag r.bt r.nw).2.1.boot }],0)
 else ({ s with now:=r.nw,rows:=(grant s.cfg.agents s.rows r.ag r.bt r.nw).1 },[{ kind:=1,agent:=r.ag,epoch:=(grant s.cfg.agents s.rows r.ag r.bt r.nw).2.1.epoch,boot:=(grant s.cfg.agents s.rows r.ag r.bt r.nw).2.1.boot }],0)
theorem TA{most:Int}{rows:List En}{a b n:Int}(h:(grant most rows a b n).2.2.2≠0):(grant most rows a b n).1=rows:=by
 unfold grant at h ⊢
 split
 .rfl
 .rename_i e;rw[V0 e]at h;dsimp only at h ⊢
  split
  .rfl
  .rename_i d;rw[V0 d]at h
   split
   .rfl
   .rename_i i;rw[V0 i]at h
    split
    .rfl
    .rename_i f;rw[V0 f]at h
     split
     .rfl
     .rename_i c;rw[V0 c]at h;simp at h
section
variable {F L:List aE}{H:aD}{K KP:KE}{Q Q':aE}
theorem Kv{tm k b:Nat}{bl:List (Option Nat)}{sts:List (Option br)}{s:br}(hm:bl.map Option.isSome=sts.map Option.isSome)(d:k<sts.length)
  (h:aA H (mapA aC ptV tm (mset ((k:Nat):Int) (some b) (cW 0 bl))::strA Q b s::lR Q bl sts k::F)):aA H (strmA Q tm (sts.set k (some s))::F):=by
 have c:bl.length=sts.length:=by have:=congrArg List.length hm;simpa using this
 have e:=pC (Q:=Q) (b:=b) (s:=s) (bl:=bl.set k none) (sts:=sts.set k none) (k:=k) (by rw[List.getElem?_set_self (by omega)]) (by rw[List.getElem?_set_self (by omega)]);rw[Yn,Yn]at e;have a:=xm (b:=b) (l:=bl) (i:=0) (k:=k) (by omega);rw[VQ]at a;rw[<-nB (r:=tm) a]at h;refine lf.2 ⟨bl.set k (some b),?_,?_⟩
 .rw [Ym,Ym,hm];rfl
 .rw [<-e];have h:=h.o [1,2,0] 3;have h:=gu.2 h;exact h.o [1,0] 2
theorem Kw{sb:Nat}{s:aI}{p:SAd}(ok:jA s.cfg)(h:aA H (cellsA sb (dq s p) 145::F))
  (k:∀b c,aA c (strA Q b (lU s.cfg)::cellsA sb (dq s p) 145::F)->K (PA b 0) c):CF 145 #[PA sb 0] H K:=by
 refine cM 145 4380 ?_;refine⟨_,h.r 0,_,h.r 0,?_⟩;refine I4 h (λa=>V2 ok.rate a) λ_ cb d h=>⟨_,_,rfl,_,h.r 1,?_⟩
 refine AD (Q:=Q) h (λa=>V2 ok.hd (by omega)) λhb e _ h=>⟨_,_,rfl,?_⟩
 refine h.al λb _ h=>?_
 refine k b _ (gW.2 ⟨cb,hb,?_⟩);exact h.o [0,2,1,3] 4
theorem Grant_spec{sb:Nat}{s:aI}{r:Rp}{a:KQ}{c:Nat}(ok:cR s)(hr:r.right=true)(r8:r.kind=2)(h:aA H (stA Q sb s::F))
  (k:∀L M y,aA y (slA 305 87 L (fC s r).2.1.length M (flat dN (fC s r).2.1)::stA Q sb (fC s r).1::F)->K (.tuple #[.slice L (fC s r).2.1.length M,aC (fC s r).2.2]) y) :
  CF 66 #[PA sb 0,.agg ⟨de r a c⟩] H K:=by
 have hL:=iF hr;have w:((r.ag.toNat:Nat):Int)=r.ag:=by have:=hL.ag;omega
 refine OW ?_;refine h.al λb H0 h=>?_
 have h:=h.o [1,0] 2;obtain⟨p,h⟩:=cX.1 h;intro Jn hJ;have N:∀bb y,aA y (cellsA bb (encE (bg s.rows r.ag)) 149::cellsA sb (dq s p) 145::Ro.rollC p.rb p.rm s.cfg.agents::Ro.mapE p.rm s.rows::Ma.markC p.mb p.mm s.ms::Ma.mapF p.mm s.ms.m::shC p.hb p.hm s.cfg.cells::cz p.hm s.cm::strmA Q p.tm s.sts::slA 164 74 p.ka s.kept.length p.kc (flat cI s.kept)::cellsA b (de r a c) 61::F)->Jn bb 0 y:=by
  intro bb H1 h;refine hJ _ _ _ ?_;intro h7 h9;unfold fC at k;have V:=TA (most:=s.cfg.agents) (rows:=s.rows) (a:=r.ag) (b:=r.bt) (n:=r.nw);have C:∀Z y,aA y (cellsA Z (encE (grant s.cfg.agents s.rows r.ag r.bt r.nw).2.1) 149::cellsA bb (encE (bg s.rows r.ag)) 149::cellsA sb (dq s p) 145::Ro.rollC p.rb p.rm s.cfg.agents::Ro.mapE p.rm (grant s.cfg.agents s.rows r.ag r.bt r.nw).1::Ma.markC p.mb p.mm s.ms::Ma.mapF p.mm s.ms.m::shC p.hb p.hm s.cfg.cells::cz p.hm s.cm::strmA Q p.tm s.sts::slA 164 74 p.ka s.kept.length p.kc (flat cI s.kept)::cellsA b (de r a c) 61::F)->
    h7 Z 0 (grant s.cfg.agents s.rows r.ag r.bt r.nw).2.2.1 (grant s.cfg.agents s.rows r.ag r.bt r.nw).2.2.2 y:=by
   intro Z H2 h;refine h9 _ _ _ _ _ ?_;generalize grant s.cfg.agents s.rows r.ag r.bt r.nw=G at *;refine⟨λS=>?_,λS=>?_⟩
   .have S:G.2.2.2≠0:=by simpa using S
    rw[V1 S]at k;rw[V S]at h;have h:=h.o [2,3,4,5,6,7,8,9,10] 12;have h:=cX.2 ⟨p,h⟩;exact k none 0 _ (h.sl_nil 305 87)
   have S:¬G.2.2.2≠0:=by simpa using S
   rw[V0 S]at k;refine⟨_,h.r 11,?_⟩;refine h.st 2 rfl rfl ?_;intro H3 h;intro h0 j3;have fin:∀(d:List bI) (la:KQ) (lc:Nat) (s':aI) (p':SAd) y,d.length<=1000000->(∀L M A,aA A (slA 305 87 L (d.length+1) M (flat dN (d++[{ kind:=1,agent:=r.ag,epoch:=G.2.1.epoch,boot:=G.2.1.boot }]))::stA Q sb s'::F)->K (.tuple #[.slice L (d.length+1) M,aC 0]) A)->
     aA y (slA 305 87 la d.length lc (flat dN d)::cellsA Z (encE G.2.1) 149::cellsA b (de r a c) 61::stA Q sb s'::F)->h0 la d.length lc y:=by
    intro d la lc s' p' H4 h4 kk h;refine j3 _ _ _ _ ?_;refine⟨_,h.r 2,_,h.r 1,_,h.r 1,?_⟩;refine h.al λb1 _ h=>?_
    refine h.append (m:=1) (ws:=dN { kind:=1,agent:=r.ag,epoch:=G.2.1.epoch,boot:=G.2.1.boot }) sl39 1 rfl (h.ce_rd 0 rfl) rfl (uz _) (by omega) (by omega) λa5 c5 H5 h=>⟨_,_,_,rfl,?_⟩
    refine kk _ _ _ ?_;rw[dR,show flat dN [({ kind:=1,agent:=r.ag,epoch:=G.2.1.epoch,boot:=G.2.1.boot }:bI)]=dN { kind:=1,agent:=r.ag,epoch:=G.2.1.epoch,boot:=G.2.1.boot } by simp[flat]];exact h.o [1,4] 5
   refine⟨λY=>?_,λY=>?_⟩
   .rw [V1 Y]at k;have B:r.ag.toNat<s.sts.length:=by have:=ok.len;have:=hL.ag;omega
    have I:∀(bl:List (Option Nat)) (la:KQ) (lc:Nat) y,bl.map Option.isSome=s.sts.map Option.isSome->(jp s r.ag).length<=1000000->
      aA y (slA 305 87 la (jp s r.ag).length lc (flat dN (jp s r.ag))::mapA aC ptV p.tm (cW 0 bl)::lR Q bl s.sts r.ag.toNat::Ma.markC p.mb p.mm (gX s r.ag)::Ma.mapF p.mm (gX s r.ag).m::cellsA Z (encE G.2.1) 149::cellsA sb (dq { s with now:=r.nw } p) 145::Ro.rollC p.rb p.rm s.cfg.agents::Ro.mapE p.rm G.1::shC p.hb p.hm s.cfg.cells::cz p.hm s.cm::slA 164 74 p.ka s.kept.length p.kc (flat cI s.kept)::cellsA b (de r a c) 61::F)->
      zk.r2 sb 0 b h0 la (jp s r.ag).length lc y:=by
     intro bl la lc H4 hm h4 h;unfold zk.r2;refine⟨_,h.r 6,_,h.r 12,?_⟩;have h:=h.o [6,0,1,2,3,4,5,7,8,9,10,11,12] 13;refine Kw (s:=({ s with now:=r.nw }:aI)) (Q:=Q) ok.cfg h λnb H5 h=>⟨_,rfl,h.r 13,h.r 1,?_⟩
     rw[<-w];refine h.mp_update (α:=Option Nat) (v:=some nb) (x:=((r.ag.toNat:Nat):Int)) qI ko2 3 rfl λH6 h=>?_
     rw[w];refine⟨_,h.r 1,_,h.r 13,_,h.r 13,?_⟩;have h:=h.o [5,6,0,1,2,3,4,7,8,9,10,11,12,13] 14;refine Ma.Join_spec (a:=r.ag) (t:=r.nw) h λH7 h=>⟨_,rfl,?_⟩
     refine fin (jp s r.ag) la lc { s with now:=r.nw,rows:=G.1,ms:=((gX s r.ag).join r.ag r.nw).1,sts:=s.sts.set r.ag.toNat (some (lU s.cfg)) } p _ h4 (λL M A h=>?_) ?_
     .have hk:=k L M A;rw[V3]at hk;exact hk h
     .
      have h:=h.o [5,2,6,0,1,3,4,7,8,9,10,11,12,13] 14;rw[<-w]at h;have h:=Kv hm B h;rw[w]at h;have h:=h.o [3,6,7,1,2,8,9,0,10,4,5,11] 12;have h:aA H7 (stA Q sb { s with now:=r.nw,rows:=G.1,ms:=((gX s r.ag).join r.ag r.nw).1,sts:=s.sts.set r.ag.toNat (some (lU s.cfg)) }::_):=cX.2 ⟨p,h⟩;exact h.o [1,2,3,0] 4
    refine⟨_,h.r 2,_,h.r 11,?_⟩;have T:(∃st,s.sts[r.ag.toNat]?=some (some st))\/s.sts[r.ag.toNat]?=some none:=by
     rw[List.getElem?_eq_getElem B]
     cases s.sts[r.ag.toNat] with
     | none=>exact .inr rfl
     | some st=>exact .inl ⟨st,rfl⟩
    rcases T with ⟨st,u⟩|u
    .have f:=ok.sts st (Wg u);have D:=xt hL.ag.1 u;have E:jp s r.ag=(aG st.hs.rows).map (pD r.ag (bg s.rows r.ag).epoch):=by unfold jp;rw[D]
     have U:gX s r.ag=(s.ms.leave r.ag).1:=by unfold gX;rw[D]
     have h:=h.o [9,0,1,2,3,4,5,6,7,8,10,11] 12;obtain⟨l6,bl,P,h⟩:=qK h u;have h:=h.o [1,0,2,3,4,5,6,7,8,9,10,11,12,13] 14;obtain⟨cb,hb,h⟩:=gW.1 h;have O:=qL P h 3 rfl;rw[w]at O;refine⟨_,O,?_⟩;intro j2 W;refine⟨λ_=>cZ ⟨_,h.r 0,?_⟩,λhn=>V2 hn (by simp)⟩
     have h:=h.o [2,0,1,3,4,5,6,7,8,9,10,11,12,13,14,15] 16;have l5:=f.hs.rows.length;have r0:=f.hs.most2;have l0:st.hs.rows.length<=256:=by omega
     refine AE h f.hs.rows.rising (λq hq=>by
      have h1:=(f.rows q hq).1;have h2:=(f.hs.rows.inb q hq).1;have h3:=f.hs.next0;unfold aF;omega) (by omega) λwa wc H4 h=>⟨_,_,_,rfl,?_⟩
     have j1:(aG st.hs.rows).length=st.hs.rows.length:=by simp[aG]
     refine⟨λla J lc i y=>∃j:Nat,i=j/\j<=st.hs.rows.length/\J=j/\
      aA y (slA 305 87 la j lc (flat dN (((aG st.hs.rows).take j).map (pD r.ag (bg s.rows r.ag).epoch)))::slA 2 1 wa st.hs.rows.length wc ((aG st.hs.rows).map aC)::mapA aC ptV p.tm (cW 0 bl)::lR Q bl s.sts r.ag.toNat::cellsA Z (encE G.2.1) 149::cellsA bb (encE (bg s.rows r.ag)) 149::cellsA sb (dq { s with now:=r.nw } p) 145::Ro.rollC p.rb p.rm s.cfg.agents::Ro.mapE p.rm G.1::Ma.markC p.mb p.mm s.ms::Ma.mapF p.mm s.ms.m::shC p.hb p.hm s.cfg.cells::cz p.hm s.cm::slA 164 74 p.ka s.kept.length p.kc (flat cI s.kept)::cellsA b (de r a c) 61::F),
      λ_ _ _ i _=>st.hs.rows.length-i.toNat,⟨0,rfl,by omega,rfl,(h.sl_nil 305 87).o [0,1,5,6,7,8,9,10,11,12,13,14,15,16,17] 18⟩,?_⟩
     rintro la J lc i H5 ⟨j,rfl,hj,rfl,h⟩;refine⟨λhc=>?_,λhc=>?_⟩
     .have B:J<st.hs.rows.length:=by have:=V4 hc;omega
      have R:J<(aG st.hs.rows).length:=by omega
      have h6:=(h.sl_rd 1 rfl).at R;refine⟨by omega,_,_,h6.1,_,h6.2,_,h.r 14,_,h.r 5,?_⟩;refine h.al λb3 _ h=>?_
      refine h.append (m:=1) (ws:=dN (pD r.ag (bg s.rows r.ag).epoch (aG st.hs.rows)[J])) sl39 1 rfl (h.ce_rd 0 rfl) rfl (uz _) (by omega) (by omega) λa5 c5 H7 h=>⟨_,_,_,rfl,?_⟩
      rw[aK (x:=(J:Int)+1)];refine⟨⟨J+1,by omega,B,rfl,?_⟩,by dsimp only;omega⟩;rw[Wj R,VT,dR,show flat dN ([(aG st.hs.rows)[J]].map (pD r.ag (bg s.rows r.ag).epoch))=dN (pD r.ag (bg s.rows r.ag).epoch (aG st.hs.rows)[J]) by simp[flat]];exact h.o [1,2,3,4,5,6,7,8,9,10,11,12,13,14,15] 16
     .have h8:J=st.hs.rows.length:=by have:=V5 hc;omega
      subst h8;rw[VZ (by omega),<-E]at h;have h5:(jp s r.ag).length=st.hs.rows.length:=by rw[E,VH,j1]
      refine⟨_,h.r 6,_,h.r 14,?_⟩;have h:=h.o [9,10,0,1,2,3,4,5,6,7,8,11,12,13,14] 15;refine Ma.Leave_spec (a:=r.ag) h λH6 h=>⟨_,rfl,?_⟩
      rw[<-U]at h;refine W _ _ _ _ ?_;rw[<-h5]at h ⊢;exact I bl la lc H6 P.m (by omega) (h.o [2,4,5,0,1,6,8,9,10,11,12,13,14] 15)
    .have D:dP s r.ag=none:=by unfold dP;rw[V0 (by have:=hL.ag;omega),u];rfl
     have E:jp s r.ag=[]:=by unfold jp;rw[D]
     have U:gX s r.ag=s.ms:=by unfold gX;rw[D]
     refine⟨_,str_nil (h.o [9] 12) (.inr (.inl u)),?_⟩;intro j2 W;refine⟨λhn=>V2 hn (by simp),λ_=>W _ _ _ _ ?_⟩
     have h:=h.o [9,5,6,0,2,3,4,7,8,10,11] 12;obtain⟨bl,hm,h⟩:=lf.1 h;have r9:bl.length=s.sts.length:=by have:=congrArg List.length hm;simpa using this
     have e1:s.sts.set r.ag.toNat none=s.sts:=by
      have:s.sts[r.ag.toNat]=none:=by rw[List.getElem?_eq_getElem B]at u;exact Option.some.inj u
      rw[<-this,WN]
     have e2:bl.set r.ag.toNat none=bl:=by
      have h1:=qJ hm r.ag.toNat
      rw[u,List.getElem?_eq_getElem (show r.ag.toNat<bl.length by omega)]at h1;have:bl[r.ag.toNat]=none:=by
       cases e:bl[r.ag.toNat] with
       | none=>rfl
       | some x=>rw[e]at h1;simp at h1
      rw[<-this,WN]
     have Y:=I bl none 0 H3 hm (by rw[E];simp);rw[E,U]at Y;refine Y ?_;rw[show lR Q bl s.sts r.ag.toNat=strsA Q bl s.sts by unfold lR;rw[e1,e2]];exact h.sl_nil 305 87
   .rw [V0 (by simpa using Y)]at k;have h:=h.o [2,3,4,5,6,7,8,9,10,0,11] 12;have h:aA H3 (stA Q sb { s with now:=r.nw,rows:=G.1 }::_):=cX.2 ⟨p,h⟩;refine fin [] none 0 _ p _ (by simp) (λL M A h=>k L M A h) ?_
    exact (h.sl_nil 305 87).o [0,2,3,1] 4
  refine⟨_,h.r 1,_,h.r 10,_,h.r 10,_,h.r 10,?_,?_⟩
  .have h:=h.o [2,3,0,1,4,5,6,7,8,9,10] 11;refine Ro.Grant_spec ok.rows (agent:=r.ag) (boot:=r.bt) (now:=r.nw) h λH2 h=>⟨_,_,_,_,_,rfl,?_⟩
   refine h.al λb4 _ h=>?_
   refine h.st 0 rfl rfl ?_;intro H3 h;exact C _ _ (h.o [0,3,4,1,2,5,6,7,8,9,10,11] 12)
  .refine h.al λb5 _ h=>⟨h.r 11,h.r 11,h.r 11,h.r 2,?_⟩
   have h:=h.o [3,4,0,1,2,5,6,7,8,9,10,11] 12;refine Ro.Grant_spec ok.rows (agent:=r.ag) (boot:=r.bt) (now:=r.nw) h λH2 h=>⟨_,_,_,_,_,rfl,?_⟩
   refine h.st 2 rfl rfl ?_;intro H3 h;exact C _ _ (h.o [2,3,4,0,1,5,6,7,8,9,10,11] 12)
 refine⟨_,h.r 0,_,h.r 9,?_,?_⟩
 .have h:=h.o [1,2,0,3,4,5,6,7,8,9] 10;refine Ro.Of_spec ok.rows (agent:=r.ag) h λH2 h=>⟨_,_,_,_,rfl,?_⟩
  refine h.al λb6 _ h=>?_
  refine h.st 0 rfl rfl ?_;intro H3 h;exact N _ _ (h.o [0,3,1,2,4,5,6,7,8,9,10] 11)
 .refine h.al λb7 _ h=>⟨h.r 10,h.r 1,?_⟩
  have h:=h.o [2,3,0,1,4,5,6,7,8,9,10] 11;refine Ro.Of_spec ok.rows (agent:=r.ag) h λH2 h=>⟨_,_,_,_,rfl,?_⟩
  refine h.st 2 rfl rfl ?_;intro H3 h;exact N _ _ (h.o [2,3,0,1,4,5,6,7,8,9,10] 11)
end
def mS(s:aI)(r:Rp):aI:=match s.sts[r.ag.toNat]? with
 | some (some st)=>{ s with now:=r.sm.came,ms:=(s.ms.hold r.ag (kU st.ck r.sm).1.held).1,sts:=s.sts.set r.ag.toNat (some { st with ck:=(kU st.ck r.sm).1 }) }
 | _=>s
def mT(s:aI)(r:Rp):aI:=if s.sunk<r.nx then { s with kept:=s.kept.drop (r.nx-s.sunk).toNat,sunk:=r.nx } else s
def bO(s:aI)(r:Rp):aI×List bI×Int:=
 if r.right=false then (s,[],10) else
 if fB s r≠0 then (s,[],fB s r) else
 if r.kind=1 then ({ s with boots:=s.boots+1 },[],0) else
 if r.kind=2 then fC s r else
 if r.kind=3 then (mS s r,[],0) else
 if r.kind=4 then ((gE s r).1,(gE s r).2,0) else
 if r.kind=5 then (lT s r,[],0) else
 if r.kind=6 then ((kI s r.nw).1,(kI s r.nw).2,0) else
 (mT s r,[],0)
theorem lg{s:aI}{r:Rp}(ok:cR s)(d:RLim r)(h:fB s r=0)(f:r.kind=3\/r.kind=4\/r.kind=5):∃st,s.sts[r.ag.toNat]?=some (some st):=by
 unfold fB at h;rw[nO,nO]at h;unfold sG at h;have c:=d.ep.1 f
 split at h
 .simp at h
 .rename_i b;have a:isE s r.ag r.ep=true:=by
   cases e:isE s r.ag r.ep
   .exact V2 ⟨by omega,e⟩ b
   .rfl
  unfold isE at a;rw[V7]at a;exact (ok.str (V4 a.1)).2
section
variable {F L:List aE}{H:aD}{K KP:KE}{Q Q':aE}
theorem Bc{sb:Nat}{s:aI}{r:Rp}{a:KQ}{c:Nat}{evs:List Ev}(ok:cR s)(hs:s.sunk<=4611686018427387903)(S:s.kept.length<=100000000000)(y:oB Q F r a evs)(h:aA H (Q::stA Q sb s::F))
  (k:∀Q' m n d,aM Q Q'->aA d (Q'::slA 305 87 m (bO s r).2.1.length n (flat dN (bO s r).2.1)::stA Q' sb (bO s r).1::F)->K (.tuple #[.slice m (bO s r).2.1.length n,aC (bO s r).2.2]) d) :
  CF 19 #[PA sb 0,.agg ⟨de r a c⟩] H K:=by
 have j2:r.evs.length=evs.length:=by rw[y.eq,VH]
 refine cN 19 0x1d21b21517413c17111413c17413c17171499c [[],[],[],[],[]] ?_;refine h.al λb H0 h=>⟨_,_,_,_,_,_,_,_,_,_,_,_,_,_,h.q 0,?_⟩
 unfold bO at k;refine AH y.eq h ⟨λH h=>y.rd H h.tl.tl.tl,λe he H h=>(y.labs e he).at h 1 rfl⟩ (by have:=y.len;omega) λH1 h=>⟨_,rfl,λO=>?_,λO=>?_⟩
 .rw [V1 (by simpa using O)]at k;have h:=h.o [1,2] 3;exact k Q none 0 _ (aM.refl Q) ((h.sl_nil 305 87).o [1,0,2] 3)
 have Y:r.right=true:=by simpa using O
 have C:=iF Y;rw[V0 (by rw[Y];simp)]at k;have h:=h.o [2,0,1] 3;refine⟨_,_,_,_,_,_,_,_,_,_,_,_,_,_,h.q 1,?_⟩;refine T9 ok hs S Y h λH2 h=>⟨_,rfl,λO=>?_,λO=>?_⟩
 .rw [V1 (by simpa using O)]at k;have h:=h.o [0,2] 3;exact k Q none 0 _ (aM.refl Q) ((h.sl_nil 305 87).o [2,0,1] 3)
 have t:fB s r=0:=by simpa using O
 rw[V0 (by rw[t];simp)]at k;refine⟨_,h.r 1,?_⟩;intro Jn hJ;have fin:∀(i:aI) d,(∀Q' m n d,aM Q Q'->aA d (Q'::slA 305 87 m 0 n []::stA Q' sb i::F)->K (.tuple #[.slice m 0 n,aC 0]) d)->aA d (stA Q sb i::Q::F)->Jn d:=by
  intro i d kk h;refine hJ _ ?_;exact kk Q none 0 _ (aM.refl Q) ((h.sl_nil 305 87).o [2,0,1] 3)
 refine⟨λf=>?_,λf=>?_⟩
 .have f:=V4 f;rw[V1 f]at k;obtain⟨p,h⟩:=cX.1 h;refine⟨_,h.r 0,?_⟩;refine h.st 0 rfl rfl ?_;intro A h;have hb:=ok.boots;rw[aK (x:=s.boots+1)]at h;have h:=h.o [0,1,2,3,4,5,6,7,8,10] 11;have h:aA A (stA Q sb { s with boots:=s.boots+1 }::_):=cX.2 ⟨p,h⟩;exact fin _ _ k h
 have V:=V5 f;rw[V0 V]at k;refine⟨λf=>?_,λf=>?_⟩
 .have D:=V4 f;rw[V1 D]at k;refine⟨_,_,_,_,_,_,_,_,_,_,_,_,_,_,h.q 1,?_⟩;refine Grant_spec ok Y D h λm n A h=>⟨_,_,_,_,rfl,?_⟩
  exact k Q m n A (aM.refl Q) (h.o [3,0,1] 4)
 have D:=V5 f;rw[V0 D]at k;intro Z h2;have I:∀(i:aI) d,(∀Q' m n d,aM Q Q'->aA d (Q'::slA 305 87 m 0 n []::stA Q' sb i::F)->K (.tuple #[.slice m 0 n,aC 0]) d)->aA d (stA Q sb i::Q::F)->Z d:=by
  intro i d kk h;refine h2 _ ?_;exact fin i d kk h
 refine⟨λf=>?_,λf=>?_⟩
 .have B:=V4 f;rw[V1 B]at k;obtain⟨st,u⟩:=lg ok C t (.inl B);unfold mS at k;rw[u]at k;dsimp only at k;have T:=ok.sts st (Wg u);have W:((r.ag.toNat:Nat):Int)=r.ag:=by have:=C.ag;omega
  obtain⟨p,h⟩:=cX.1 h;have h:=h.o [7,0,1,2,3,4,5,6,8,9,10] 11;obtain⟨h0,bl,J,h⟩:=qK h u;have h:=h.o [1,0,2,3,4,5,6,7,8,9,10,11,12] 13;obtain⟨cb,hb,h⟩:=gW.1 h;have G:=qL J h 3 rfl;rw[W]at G;refine⟨_,h.r 5,_,h.r 13,_,G,⟨_,h.rd 0 rfl 0,_,_,_,_,h.q 13,?_⟩⟩;have h:=h.o [1,0,2,3,4,5,6,7,8,9,10,11,12,13,14] 15;refine Rr (s:=r.sm) T.ck h λA h=>⟨_,rfl,_,h.r 5,_,h.rd 13 rfl _,⟨_,h.rd 1 rfl 0,_,uf h,?_⟩⟩
  have h:=h.o [8,9,0,1,2,3,4,5,6,7,10,11,12,13,14] 15;refine Ma.Hold_spec (a:=r.ag) (v:=(kU st.ck r.sm).1.held) h λH4 h=>⟨_,rfl,_,h.r 13,?_⟩
  refine h.st 7 rfl rfl ?_;intro H5 h;refine I _ _ k ?_;have h:=h.o [3,2,4,5,6,7,8,9,0,1,10,11,12,14] 15;have h:aA H5 (strA Q h0 { st with ck:=(kU st.ck r.sm).1 }::_):=gW.2 ⟨cb,hb,h⟩;have h:=h.o [1,0,2,3,4,5,6,7,8,9,10,11] 12;have h:=sE J h;exact cX.2 ⟨p,h.o [1,2,3,4,5,6,7,0,8,9] 10⟩
 have B:=V5 f;rw[V0 B]at k;refine⟨λf=>?_,λf=>?_⟩
 .have w:=V4 f;rw[V1 w]at k;obtain⟨st,u⟩:=lg ok C t (.inr (.inl w));have hb:=C.evs w;unfold gU at hb;simp only[V7,V6,Wq]at hb;refine⟨_,_,_,_,_,_,_,_,_,_,_,_,_,_,h.q 1,?_⟩;have h:=h.o [2,0,1] 3;refine T7 (evs:=evs) ok C.ag.1 u ⟨y.eq,λH h=>y.rd H h.tl,y.labs,y.len,y.vals⟩ (λe he=>hb.2.2 e he) (by omega) h λQ2 m n A h4 h=>⟨_,_,_,rfl,?_⟩
  exact k Q2 m n A h4 (h.o [0,1,2] 4)
 have w:=V5 f;rw[V0 w]at k;intro h1 h5;have M:∀(i:aI) d,(∀Q' m n d,aM Q Q'->aA d (Q'::slA 305 87 m 0 n []::stA Q' sb i::F)->K (.tuple #[.slice m 0 n,aC 0]) d)->aA d (stA Q sb i::Q::F)->h1 d:=by
  intro i d kk h;refine h5 _ ?_;exact I i d kk h
 refine⟨λf=>?_,λf=>?_⟩
 .have E:=V4 f;rw[V1 E]at k;obtain⟨st,u⟩:=lg ok C t (.inr (.inr E));refine⟨_,_,_,_,_,_,_,_,_,_,_,_,_,_,h.q 1,?_⟩;refine T8 ok C.ag.1 u h λA h=>⟨rfl,M _ _ k (h.o [0,2] 3)⟩
 have E:=V5 f;rw[V0 E]at k;refine⟨λf=>?_,λf=>?_⟩
 .have N:=V4 f;rw[V1 N]at k;refine⟨_,h.r 1,?_⟩;refine Tick_spec ok hs S h λm n A h=>⟨_,_,_,rfl,?_⟩
  exact k Q m n A (aM.refl Q) (h.o [3,0,1] 4)
 have N:=V5 f;rw[V0 N]at k;intro h3 h8;have R:∀(i:aI) d,(∀Q' m n d,aM Q Q'->aA d (Q'::slA 305 87 m 0 n []::stA Q' sb i::F)->K (.tuple #[.slice m 0 n,aC 0]) d)->aA d (stA Q sb i::Q::F)->h3 d:=by
  intro i d kk h;refine h8 _ ?_;exact M i d kk h
 have P:r.kind=7:=by have:=C.kind;omega
 refine⟨λ_=>?_,λf=>V2 P (V5 f)⟩
 obtain⟨p,h⟩:=cX.1 h;refine⟨_,h.r 9,_,h.r 0,?_⟩;intro h6 h7;have L:∀(i:aI) d,(∀Q' m n d,aM Q Q'->aA d (Q'::slA 305 87 m 0 n []::stA Q' sb i::F)->K (.tuple #[.slice m 0 n,aC 0]) d)->aA d (stA Q sb i::Q::F)->h6 d:=by
  intro i d kk h;refine h7 _ ?_;exact R i d kk h
 unfold mT at k;refine⟨λf=>?_,λf=>?_⟩
 .have f:=V4 f;rw[V1 f]at k;have U:r.nx<=s.next:=by
   unfold fB at t;rw[V0 V,V1 P]at t
   split at t
   .simp at t
   .omega
  have U:r.nx<=s.sunk+(s.kept.length:Int):=U;have j1:=ok.sunk;have h9:=C.nx;have hw:i64.wrap (r.nx-s.sunk)=((r.nx-s.sunk).toNat:Nat):=by rw[aK];omega
  refine⟨_,_,_,h.r 0,_,h.r 9,_,h.r 0,?_⟩;dsimp only
  conv=>whnf
  rw[hw];have h:=h.o [8,0,1,2,3,4,5,6,7,9,10] 11;refine S6 (j:=(r.nx-s.sunk).toNat) (by omega) h λA h=>⟨_,_,_,rfl,?_⟩
  refine h.st 1 rfl rfl ?_;intro H4 h;refine⟨_,h.r 9,?_⟩;refine h.st 1 rfl rfl ?_;intro H5 h;refine L _ _ k ?_;refine cX.2 ⟨p,?_⟩;have e:(s.kept.drop (r.nx-s.sunk).toNat).length=s.kept.length-(r.nx-s.sunk).toNat:=VP ..;simp only[dq,e];exact h.o [1,2,3,4,5,6,7,8,0,10] 11
 .rw [V0 (V5 f)]at k;refine L _ _ k (cX.2 ⟨p,h.o [0,1,2,3,4,5,6,7,8,10] 11⟩)
end
section
variable {α:Type}
theorem Kx{next most B:Int}:∀{l:List α} {n:Int} {s:cy α×Int},(∀p∈s.1,p.1<B)->n+l.length<=B->∀p∈(fk next most n l s).1,p.1<B
 | [],n,s,h,_=>h
 | v::vs,n,s,h,hn=>by
  rw[V9]at hn;refine Kx (l:=vs) (λp a=>?_) (by omega)
  unfold ei at a
  split at a
  .exact h p a
  .split at a
   .exact h p a
   .rcases tE.1 a with rfl|a
    .show n<B;omega
    .exact h p a
theorem pop_le{B:Int}:∀{l:cy α} {next:Int},next<=B->(∀p∈l,p.1<B)->(pop next l).2.1<=B
 | [],next,h,_=>h
 | (n,v)::r,next,h,hl=>by
  unfold pop
  split
  .rename_i e;have:=hl _ (VM ..);exact pop_le (l:=r) (next:=next+1) (by dsimp only at this;omega) λp a=>hl p (VL _ a)
  .exact h
theorem Kz{s:HS α}{first B:Int}{items:List α}(b:s.next<=B)(a:∀p∈s.rows,p.1<B)(c:first+items.length<=B) :
  (s.offer first items).1.next<=B/\∀p∈(s.offer first items).1.rows,p.1<B:=by
 unfold HS.offer
 split
 .exact⟨b,a⟩
 .have h:=Kx (next:=s.next) (most:=s.most) (l:=items) (n:=first) (s:=(s.rows,0)) a c;exact⟨pop_le b h,λp d=>h p (AB.2 p d)⟩
end
theorem K0(ms:MS)(a t:Int):(ms.raise a t).1.lag=ms.lag:=by
 unfold MS.raise
 split
 .rfl
 .split <;> rfl
theorem hold_lag(ms:MS)(a:Int)(b:Bool):(ms.hold a b).1.lag=ms.lag:=by
 unfold MS.hold;split <;> rfl
theorem TB(ms:MS)(a:Int):(ms.leave a).1.lag=ms.lag:=by
 unfold MS.leave;split <;> rfl
theorem join_lag(ms:MS)(a t:Int):(ms.join a t).1.lag=ms.lag:=by
 unfold MS.join
 split
 .rfl
 .split <;> rfl
theorem tick_lag(ms:MS)(t:Int):(ms.tick t).1.lag=ms.lag:=by
 unfold MS.tick;split <;> rfl
theorem K2{c:bD}{now a:Int}{st:br}{ms:MS}{cm:CM}{e:Pv}(h:MOk ms):MOk (eE c now a st ms cm e).ms/\(eE c now a st ms cm e).ms.lag=ms.lag:=by
 have d:=h.raise a (cQ st.ck (bG ms a) now e.stamp).1.lo;have b:=K0 ms a (cQ st.ck (bG ms a) now e.stamp).1.lo;unfold eE
 split
 .exact⟨h,rfl⟩
 split
 .exact⟨h,rfl⟩
 split
 .exact⟨d,b⟩
 split
 .exact⟨d,b⟩
 split <;> exact⟨d,b⟩
theorem K3{c:bD}{now a ep first:Int}{evs:List Pv}{x:JS}(h:MOk x.ms)(i:-1<=x.st.last/\x.st.last<=4611686018427387903)(f:∀e∈evs,gT e=true):∀n,n<=evs.length->
  MOk (dh c now a ep first evs x n).1.ms/\(dh c now a ep first evs x n).1.ms.lag=x.ms.lag/\-1<=(dh c now a ep first evs x n).1.st.last/\(dh c now a ep first evs x n).1.st.last<=4611686018427387903
 | 0,_=>⟨h,rfl,i⟩
 | n+1,hn=>by
  have d:=K3 (c:=c) (now:=now) (a:=a) (ep:=ep) (first:=first) h i f n (by omega);have j:=xr c now a (dh c now a ep first evs x n).1.st (dh c now a ep first evs x n).1.ms (dh c now a ep first evs x n).1.cm (evs.getD n Pv.z);have hm:=K2 (c:=c) (now:=now) (a:=a) (st:=(dh c now a ep first evs x n).1.st) (cm:=(dh c now a ep first evs x n).1.cm) (e:=evs.getD n Pv.z) d.1;have b:gT (evs.getD n Pv.z)=true:=by rw[ov _ (by omega)];exact f _ (VF _)
  unfold gT at b;simp only[V7,V6]at b;refine⟨hm.1,hm.2.trans d.2.1,?_⟩;show -1<=(eE c now a _ _ _ _).st.last/\(eE c now a _ _ _ _).st.last<=_
  rcases j.2.2 with e|e
  .rw [e];exact d.2.2
  .rw [e];omega
theorem cR.setStr{s:aI}(ok:cR s){k:Nat}{st a:br}{now:Int}{ms:MS}{cm:CM}(d:s.sts[k]?=some (some st))(h:isT now)(n:MOk ms)(m:ms.lag=s.ms.lag)(i:dX s.cfg.cells cm)(f:lS s.cfg a) :
  cR { s with now:=now,ms:=ms,cm:=cm,sts:=s.sts.set k (some a) }:=by
 have c:k<s.sts.length:=(List.getElem?_eq_some_iff.1 d).1;refine⟨ok.cfg,h,ok.boots,ok.sunk,ok.rows,n,m.trans ok.lag,i,?_,λx b=>?_,λj=>?_,ok.kept⟩
 .show (s.sts.set k _).length=64;rw[List.length_set,ok.len]
 .rcases Y2 b with b|b
  .exact ok.sts x b
  .cases b;exact f
 .rw [<-ok.reg j];show (∃x,(s.sts.set k (some a))[j]?=some (some x))↔_
  by_cases e:j=k
  .subst e;rw[List.getElem?_set_self c];exact⟨λ_=>⟨st,d⟩,λ_=>⟨a,rfl⟩⟩
  .rw [List.getElem?_set_ne (by omega)]
theorem cR.upd{s:aI}(ok:cR s){now:Int}{ms:MS}{cm:CM}{kept:List Ot}{sunk boots:Int}(b:isT now)(f:MOk ms)(d:ms.lag=s.ms.lag)(c:dX s.cfg.cells cm)(a:∀o∈kept,WC o.2)(h:0<=sunk)(e:0<=boots/\boots<=1099511627776) :
  cR { s with now:=now,ms:=ms,cm:=cm,kept:=kept,sunk:=sunk,boots:=boots }:=
 ⟨ok.cfg,b,e,h,ok.rows,f,d.trans ok.lag,c,ok.len,ok.sts,ok.reg,a⟩
theorem xu{most:Int}{m:CM}(h:dX most m):∀o∈bA m,WC o.2:=by
 intro o a;unfold bA at a;obtain⟨k,_,rfl⟩:=VB.1 a;exact h.cell k
theorem TD{c:bD}(h:jA c):lS c (lU c) where
 ck:=⟨by simp[lU],λs hs=>V2 hs (by simp[lU]),by show (0:Int)<=0/\(0:Int)<=9223372036854775807;decide⟩
 rho:=rfl
 least:=rfl
 hs:=⟨by show (0:Int)<=0;decide,h.hd.1,h.hd.2,⟨by simp[lU,gK],λp a=>V2 a (by simp[lU])⟩⟩
 most:=rfl
 next:=by show (0:Int)<=_;decide
 rows:=λp a=>V2 a (by simp[lU])
 last:=by show (-1:Int)<=-1/\(-1:Int)<=4611686018427387903;decide
theorem TE(c:Ck)(s:bQ):(kU c s).1.rho=c.rho/\(kU c s).1.least=c.least:=by
 unfold kU
 split
 .exact⟨rfl,rfl⟩
 .dsimp only;generalize pm _=B
  cases B <;> exact⟨rfl,rfl⟩
theorem batch_ok{s:aI}{r:Rp}(ok:cR s)(t:RLim r)(D:r.kind=4){st:br}(i:s.sts[r.ag.toNat]?=some (some st))(u:∀e∈r.evs,aF e.value):cR (gE s r).1:=by
 have b:=ok.sts st (Wg i);have hb:=t.evs D;unfold gU at hb;simp only[V7,V6,Wq]at hb;obtain⟨⟨C,E⟩,⟨⟨w,y⟩,A⟩,k⟩:=hb;have v:=HS.offer_ok b.hs r.nx r.evs;have hm:=uo (s:=st.hs) (first:=r.nx) (items:=r.evs);have j:=Kz (s:=st.hs) (first:=r.nx) (B:=1099511627776) (items:=r.evs) b.next (λp n=>(b.rows p n).1) (by omega)
 unfold gE;rw[i];dsimp only;unfold kH;generalize st.hs.offer r.nx r.evs=O at *;have good:∀e∈O.2.1,gT e=true/\aF e.value:=by
  intro e m
  rcases hm.1 e m with h|⟨q,h,rfl⟩
  .exact⟨k e h,u e h⟩
  .exact (b.rows q h).2
 have d:=Bb (c:=s.cfg) (now:=r.nw) (a:=r.ag) (ep:=r.ep) (first:=st.hs.next) (evs:=O.2.1) (x:=⟨{ st with hs:=O.1 },s.ms,s.cm⟩) ok.sh (λe m=>(good e m).2) O.2.1.length (VA _)
 have f:=K3 (c:=s.cfg) (now:=r.nw) (a:=r.ag) (ep:=r.ep) (first:=st.hs.next) (evs:=O.2.1) (x:=⟨{ st with hs:=O.1 },s.ms,s.cm⟩) ok.ms b.last (λe m=>(good e m).1) O.2.1.length (VA _)
 generalize dh s.cfg r.nw r.ag r.ep st.hs.next O.2.1 ⟨{ st with hs:=O.1 },s.ms,s.cm⟩ O.2.1.length=G at *;refine ok.setStr i t.nw f.1 f.2.1 d.1 ⟨by rw[d.2.1];exact b.ck,by rw[d.2.1];exact b.rho,by rw[d.2.1];exact b.least,by rw[d.2.2.1];exact v.1,by rw[d.2.2.1];exact v.2.2.2.trans b.most,by rw[d.2.2.1];exact j.1,?_,f.2.2⟩;rw[d.2.2.1];intro p n;refine⟨j.2 p n,?_⟩
 rcases hm.2 p n with h|h
 .exact⟨k _ h,u _ h⟩
 .exact (b.rows p h).2
theorem xv{most:Int}{rows:List En}(c:fR rows)(a b n:Int) :
  ((grant most rows a b n).2.2.1=true/\(grant most rows a b n).1=rows.set a.toNat (grant most rows a b n).2.1/\0<(grant most rows a b n).2.1.epoch/\(grant most rows a b n).2.2.2=0/\(grant most rows a b n).2.1.epoch=(bg rows a).epoch+1)\/
  ((grant most rows a b n).2.2.1=false/\(grant most rows a b n).1=rows/\((grant most rows a b n).2.2.2=0->(grant most rows a b n).2.1=bg rows a/\0<(bg rows a).epoch)):=by
 have h0:=(c.at a).1;unfold grant
 split
 .exact .inr ⟨rfl,rfl,λh=>by simp at h⟩
 dsimp only
 split
 .rename_i h;exact .inr ⟨rfl,rfl,λ_=>⟨rfl,h.1⟩⟩
 split
 .exact .inr ⟨rfl,rfl,λh=>by simp at h⟩
 split
 .exact .inr ⟨rfl,rfl,λh=>by simp at h⟩
 split
 .exact .inr ⟨rfl,rfl,λh=>by simp at h⟩
 .exact .inl ⟨rfl,rfl,by show 0<(bg rows a).epoch+1;omega,rfl,rfl⟩
theorem oldM_ok{s:aI}(ok:cR s)(a:Int):MOk (gX s a)/\(gX s a).lag=s.ms.lag:=by
 unfold gX
 split
 .exact⟨ok.ms.leave a,TB _ _⟩
 .exact⟨ok.ms,rfl⟩
theorem TF{s:aI}{r:Rp}(ok:cR s)(d:RLim r):cR (fC s r).1:=by
 have k:=xv (most:=s.cfg.agents) ok.rows r.ag r.bt r.nw;have h:=grant_ok (most:=s.cfg.agents) ok.rows r.ag r.bt r.nw;have i:=oldM_ok ok r.ag;unfold fC
 split
 .exact ok
 split
 .rename_i c
  rcases k with ⟨-,g2,g3,g4,-⟩|⟨g1,_⟩
  .have f:r.ag.toNat<s.sts.length:=by rw[ok.len];have:=d.ag;omega
   have b:r.ag.toNat<s.rows.length:=by rw[ok.rows.len];have:=d.ag;omega
   refine⟨ok.cfg,d.nw,ok.boots,ok.sunk,h,i.1.join _ _,(join_lag _ _ _).trans (i.2.trans ok.lag),ok.sh,?_,λx a=>?_,λj=>?_,ok.kept⟩
   .show (s.sts.set _ _).length=64;rw[List.length_set,ok.len]
   .rcases Y2 a with a|a
    .exact ok.sts x a
    .cases a;exact TD ok.cfg
   .dsimp only;rw[g2]
    by_cases e:j=r.ag.toNat
    .subst e;rw[List.getElem?_set_self f,List.getElem?_set_self b];exact⟨λ_=>⟨_,rfl,g3⟩,λ_=>⟨_,rfl⟩⟩
    .rw [List.getElem?_set_ne (by omega),List.getElem?_set_ne (by omega)];exact ok.reg j
  .rw [g1]at c;cases c
 .rename_i c
  rcases k with ⟨g1,_⟩|⟨-,g2,_⟩
  .exact V2 g1 c
  .dsimp only;rw[g2];exact ok.upd (kept:=s.kept) (sunk:=s.sunk) (boots:=s.boots) d.nw ok.ms rfl ok.sh ok.kept ok.sunk ok.boots
theorem Bd{m:CM}{b:Int}{o:Ot}(h:o∈iC m b):o∈bA m:=(List.takeWhile_sublist _).subset h
theorem apply_ok{s:aI}{r:Rp}(ok:cR s)(m:∀e∈r.evs,aF e.value):cR (bO s r).1:=by
 unfold bO
 split
 .exact ok
 rename_i j;have j:r.right=true:=by simpa using j
 have d:=iF j
 split
 .exact ok
 rename_i c;have c:fB s r=0:=by simpa using c
 split
 .rename_i f;have hb:s.boots<1099511627776:=by
   unfold fB at c;rw[V1 f]at c
   split at c
   .simp at c
   .omega
  exact ok.upd (now:=s.now) (kept:=s.kept) (sunk:=s.sunk) (boots:=s.boots+1) ok.now ok.ms rfl ok.sh ok.kept ok.sunk (by have:=ok.boots;omega)
 split
 .exact TF ok d
 split
 .rename_i f;obtain⟨st,b⟩:=lg ok d c (.inl f);have a:=ok.sts st (Wg b);unfold mS;rw[b];have k:=TE st.ck r.sm;have i:=d.sm;unfold bQ.ok at i;exact ok.setStr b i.2.2.2.1 (ok.ms.hold _ _) (hold_lag _ _ _) ok.sh ⟨ckAdd_ok a.ck r.sm,k.1.trans a.rho,k.2.trans a.least,a.hs,a.most,a.next,a.rows,a.last⟩
 split
 .rename_i f;obtain⟨st,b⟩:=lg ok d c (.inr (.inl f));exact batch_ok ok d f b m
 split
 .rename_i f;obtain⟨st,b⟩:=lg ok d c (.inr (.inr f));have a:=ok.sts st (Wg b);have same:=ok.upd (now:=r.nw) (kept:=s.kept) (sunk:=s.sunk) (boots:=s.boots) d.nw ok.ms rfl ok.sh ok.kept ok.sunk ok.boots;unfold lT;rw[b];dsimp only
  split
  .exact same
  split
  .exact same
  .have:=d.st;exact ok.setStr b d.nw (ok.ms.raise _ _) (K0 _ _ _) ok.sh ⟨a.ck,a.rho,a.least,a.hs,a.most,a.next,a.rows,by show -1<=r.st/\r.st<=4611686018427387903;omega⟩
 split
 .unfold kI;exact ok.upd (sunk:=s.sunk) (boots:=s.boots) d.nw (ok.ms.tick _) (tick_lag _ _) (T3 ok.sh) (λo h=>by
   rcases VR.1 h with h|h
   .exact ok.kept o h
   .exact xu ok.sh o (Bd h)) ok.sunk ok.boots
 .unfold mT
  split
  .exact ok.upd (now:=s.now) (boots:=s.boots) ok.now ok.ms rfl ok.sh (λo h=>ok.kept o (WE h)) d.nx.1 ok.boots
  .exact ok
def fD(c:bD):Bool:=decide c.gd.ok&&decide (1<=c.lag/\c.lag<=1099511627776)&&decide (gy c.rho/\0<=c.trust/\c.trust<=100)&&decide (1<=c.agents/\c.agents<=64)&&decide (1<=c.cells/\c.cells<=1024)&&decide (1<=c.hold/\c.hold<=256)
theorem uB{c:bD}(h:fD c=true):jA c:=by
 unfold fD at h;simp only[V7,V6]at h;obtain⟨⟨⟨⟨⟨b,i⟩,a⟩,e⟩,f⟩,d⟩:=h;exact⟨b,i,a,e,f,d⟩
def bU(c:bD):aI:=⟨c,0,0,0,List.replicate 64 En.z,MS.new c.lag,[],List.replicate 64 none,[]⟩
theorem qM{c:bD}(h:jA c):cR (bU c) where
 cfg:=h
 now:=by show isT 0;decide
 boots:=by show (0:Int)<=0/\(0:Int)<=1099511627776;decide
 sunk:=by show (0:Int)<=0;decide
 rows:=Tk
 ms:=MOk.new h.lag.1 h.lag.2
 lag:=rfl
 sh:=⟨h.cl.1,h.cl.2,by simp[bU],λp a=>V2 a (by simp[bU]),λp a=>V2 a (by simp[bU]),λp a=>V2 a (by simp[bU]),by have:=h.cl;simp[bU];omega⟩
 len:=by simp[bU]
 sts:=λst hs=>by
  have:=YH hs
  cases this
 reg:=λk=>by
  unfold bU;dsimp only;rw[List.getElem?_replicate,List.getElem?_replicate]
  by_cases hk:k<64
  .rw [V1 hk,V1 hk]
   constructor
   .rintro⟨st,h⟩;cases h
   .rintro⟨e,h,h2⟩;cases h;simp[En.z]at h2
  .rw [V0 hk,V0 hk]
   constructor
   .rintro⟨st,h⟩;cases h
   .rintro⟨e,h,h2⟩;cases h
 kept:=λo b=>V2 b (by simp[bU])
structure AgR where
 en:En
 fl:Fl
 last:Int
 next:Int
 wait:Int
 smps:Int
def AgR.z:AgR:=⟨En.z,Fl.z,0,0,0,0⟩
abbrev encA(x:AgR):Os:=[aB x.en.epoch,aB x.en.boot,aB x.en.time,aB x.fl.t,.bool x.fl.out,.bool x.fl.was,.bool x.fl.held,aB x.last,aB x.next,aB x.wait,aB x.smps]
def lh(s:aI)(a:Int):AgR×Bool:=if 0<(bg s.rows a).epoch then (match dP s a with
 | some st=>(⟨bg s.rows a,bG s.ms a,st.last,st.hs.next,(st.hs.rows.length:Nat),(st.ck.smps.length:Nat)⟩,true)
 | none=>(AgR.z,true)) else (AgR.z,false)
section
variable {F L:List aE}{H:aD}{K KP:KE}{Q Q':aE}
def eN(p:Prop)[Decidable p]:Int:=if p then 0 else 11
theorem uC{p:Prop}[Decidable p](h:p):eN p=0:=V1 h
theorem uD{p:Prop}[Decidable p](h:¬p):eN p=11:=V0 h
theorem lV(h:aA H F):aA H (emp::F):=by
 unfold aA at *;simpa[star,oO] using h
theorem MarkE{lag:Int}(h:aA H F)(k:∀p a,aA a F->K (.tuple #[.pointer p,aC (eN (1<=lag/\lag<=1099511627776))]) a):CF 181 #[aC lag] H K:=by
 refine Ma.New_spec h (λd=>?_) λc b mb rb a h=>?_
 .have:=k none H h;rw[uD (by omega)]at this;exact this
 .have:=k (some ⟨mb,0,none⟩) a h.tl.tl;rw[uC ⟨c,b⟩]at this;exact this
theorem ClockE{rho least:Int}(h:aA H F)(k:∀p a,aA a F->K (.tuple #[.pointer p,aC (eN (gy rho/\0<=least/\least<=100))]) a):CF 182 #[aC rho,aC least] H K:=by
 refine I4 h (λc=>?_) λd b a h=>?_
 .have:=k none H h;rw[uD c]at this;exact this
 .have:=k (some ⟨b,0,none⟩) a h.tl;rw[uC d]at this;exact this
theorem RollE{most:Int}(h:aA H F)(k:∀p a,aA a F->K (.tuple #[.pointer p,aC (eN (1<=most/\most<=64))]) a):CF 183 #[aC most] H K:=by
 refine Ro.New_spec h (λb=>?_) λc rb mb a h=>?_
 .have:=k none H h;rw[uD (by omega)]at this;exact this
 .have:=k (some ⟨rb,0,none⟩) a h.tl.tl;rw[uC (by omega)]at this;exact this
theorem ShelfE{most:Int}(h:aA H F)(k:∀p a,aA a F->K (.tuple #[.pointer p,aC (eN (1<=most/\most<=1024))]) a):CF 184 #[aC most] H K:=by
 refine IL h (λb=>?_) λrb mb a ok h=>?_
 .have:=k none H h;rw[uD (by omega)]at this;exact this
 .have:=k (some ⟨rb,0,none⟩) a h.tl.tl;rw[uC ⟨ok.m1,ok.m2⟩]at this;exact this
theorem HoldE{most:Int}(h:aA H F)(k:∀p a,aA a F->K (.tuple #[.pointer p,aC (eN (1<=most/\most<=256))]) a):CF 185 #[aC 0,aC most] H K:=by
 refine AD (Q:=emp) h (λb=>?_) λhb a c h=>?_
 .have:=k none H h;rw[uD (by omega)]at this;exact this
 .have:=k (some ⟨hb,0,none⟩) a h.tl;rw[uC (by omega)]at this;exact this
theorem eq138{a b c d e f:Int}:gZ Tryz.prog .eql 357 (.agg #[aC a,aC b,aC c,aC d,aC e,aC f]) (.agg #[aC 0,aC 0,aC 0,aC 0,aC 0,aC 0])
  (decide (a=0)&&decide (b=0)&&decide (c=0)&&decide (d=0)&&decide (e=0)&&decide (f=0)):=by
 have h:=(yS (P:=Tryz.prog) (t:=357) (xs:=[aC a,aC b,aC c,aC d,aC e,aC f]) (ys:=[aC 0,aC 0,aC 0,aC 0,aC 0,aC 0])
  (r:=(a == 0&&(b == 0&&(c == 0&&(d == 0&&(e == 0&&(f == 0&&true))))))) (by kernel_rfl)).1
 have e:(a == 0&&(b == 0&&(c == 0&&(d == 0&&(e == 0&&(f == 0&&true))))))=(decide (a=0)&&decide (b=0)&&decide (c=0)&&decide (d=0)&&decide (e=0)&&decide (f=0)):=by
  rw[Wi];simp only[V7,beq_iff_eq,V6,Bool.and_true]
  constructor
  .rintro⟨h1,h2,h3,h4,h5,h6⟩;exact⟨⟨⟨⟨⟨h1,h2⟩,h3⟩,h4⟩,h5⟩,h6⟩
  .rintro⟨⟨⟨⟨⟨h1,h2⟩,h3⟩,h4⟩,h5⟩,h6⟩;exact⟨h1,h2,h3,h4,h5,h6⟩
 rw[e]at h;exact h
theorem eN0(p:Prop)[Decidable p]:decide (eN p=0)=decide p:=by
 unfold eN
 by_cases h:p
 .simp [h]
 .simp [h]
theorem Be{c:bD}(h:aA H F)(k:∀a,aA a F->K (.bool (fD c)) a):CF 84 #[.agg ⟨oz c⟩] H K:=by
 refine cM 84 286331164 ?_;refine h.al λb _ h=>⟨_,h.r 0,_,h.r 0,_,h.r 0,?_⟩
 refine Iy (g:=c.gd) h λi h=>⟨_,_,_,_,rfl,?_⟩
 refine h.al λb1 _ h=>?_
 refine h.st 0 rfl rfl ?_;intro j h;refine⟨_,h.r 1,MarkE h λp1 m h=>⟨_,_,rfl,_,h.r 1,_,h.r 1,ClockE h λp2 f h=>⟨_,_,rfl,_,h.r 1,RollE h λp3 s h=>⟨_,_,rfl,_,h.r 1,ShelfE h λp4 t h=>⟨_,_,rfl,_,h.r 1,HoldE h λp5 n h=>⟨_,_,rfl,_,eq138,?_⟩⟩⟩⟩⟩⟩
 have e:fD c=(decide ((if c.gd.ok then (0:Int) else 11)=0)&&decide (eN (1<=c.lag/\c.lag<=1099511627776)=0)&&decide (eN (gy c.rho/\0<=c.trust/\c.trust<=100)=0)&&decide (eN (1<=c.agents/\c.agents<=64)=0)&&decide (eN (1<=c.cells/\c.cells<=1024)=0)&&decide (eN (1<=c.hold/\c.hold<=256)=0)):=by
  have d:=eN0 c.gd.ok;unfold eN at d;rw[d,eN0,eN0,eN0,eN0,eN0];rfl
 rw[<-e];exact k _ h.tl.tl
theorem K4{c:bD}(h:aA H F)(k1:fD c=false->∀a,aA a F->K (.tuple #[.pointer none,aC 11]) a)(k2:fD c=true->∀sb a,aA a (stA Q sb (bU c)::F)->K (.tuple #[PA sb 0,aC 0]) a) :
  CF 102 #[.agg ⟨oz c⟩] H K:=by
 refine cM 102 487657756 ?_;refine h.al λb _ h=>⟨_,_,_,_,_,_,_,_,_,h.q 0,?_⟩
 refine Be (c:=c) h λv h=>⟨_,rfl,λd=>?_,λd=>?_⟩
 .exact k1 (by simpa using d) _ h.tl
 have i:fD c=true:=by simpa using d
 have ok:=uB i;refine⟨_,_,_,_,_,_,_,_,_,h.q 0,?_⟩;refine h.alm aC ptV λtm _ h=>?_
 refine h.al λsb _ h=>⟨_,h.r 2,_,h.r 2,_,h.r 2,?_⟩
 refine Iy (g:=c.gd) h λn h=>⟨_,_,_,_,rfl,?_⟩
 rw[V1 ok.gd];refine h.st 0 rfl rfl ?_;intro s h;refine⟨_,h.r 2,Ro.New_spec h (λf=>V2 ok.ag (by omega)) λ_ rb rm t h=>⟨_,_,rfl,?_⟩⟩
 refine h.st 2 rfl rfl ?_;intro m h;refine⟨_,h.r 4,Ma.New_spec h (λf=>V2 ok.lag (by omega)) λ_ _ mb mm w h=>⟨_,_,rfl,?_⟩⟩
 refine h.st 4 rfl rfl ?_;intro x h;refine⟨_,h.r 6,IL h (λf=>V2 ok.cl (by omega)) λhb hm u _ h=>⟨_,_,rfl,?_⟩⟩
 refine h.st 6 rfl rfl ?_;intro j h;refine k2 i sb _ (cX.2 ⟨⟨rb,rm,mb,mm,hb,hm,tm,none,0⟩,?_⟩);have h:=(h.sl_nil 164 74).o [8,0,7,5,6,3,4,1,2] 10;have k:aA j (strmA Q tm (List.replicate 64 none)::_):=lf.2 ⟨List.replicate 64 none,by simp,by
  rw[AY];have e:cW 0 (List.replicate 64 (none:Option Nat))=[]:=by decide
  rw[e];have:=lV h;exact this.o [1,0] 2⟩
 exact k.o [2,3,4,5,6,7,8,0,1] 9
end
end Go.Proofs.YtaaieblnikcndaaGreatDoor
