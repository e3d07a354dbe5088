/-
  Lemmas for GateQuiet: part 7 of what it rests on. Conditions: none.
-/
import Derived.Test.YtaaieblnikcndaaGreatDoorGC6
set_option linter.unusedVariables false
set_option linter.unusedSimpArgs false
set_option maxRecDepth 100000
set_option maxHeartbeats 16000000
open Go.IntKind (i64 u64 i8 u8 i32 u32 i16 u16)
namespace Go.Proofs.YtaaieblnikcndaaGreatDoor
open Go
structure Fl where
 t:Int
 out:Bool
 was:Bool
 held:Bool
deriving DecidableEq
def Fl.z:Fl:=⟨0,false,false,false⟩
abbrev encF(x:Fl):Os:=[.int .i64 x.t,.bool x.out,.bool x.was,.bool x.held]
abbrev mI(x:Fl):Value:=.agg #[.int .i64 x.t,.bool x.out,.bool x.was,.bool x.held]
abbrev FM:=List (Int×Fl)
abbrev isT(t:Int):Prop:=0<=t/\t<=4611686018427387903
abbrev isAg(a:Int):Prop:=0<=a/\a<64
structure MS where
 lag:Int
 now:Int
 value:Int
 m:FM
deriving DecidableEq
structure MOk(s:MS):Prop where
 l1:1<=s.lag
 l2:s.lag<=1099511627776
 n:isT s.now
 v1:-s.lag<=s.value
 v2:s.value<=4611686018427387903
 nd:(aG s.m).Nodup
 rows:∀p∈s.m,isAg p.1/\isT p.2.t
def MS.new(lag:Int):MS:=⟨lag,0,-lag,[]⟩
def MS.join(s:MS)(a t:Int):MS×Int:=
 if ¬isAg a\/¬isT t then (s,11) else
 match aL a s.m with
 | some _=>(s,18)
 | none=>({ s with m:=mset a ⟨t,false,false,false⟩ s.m },0)
def MS.raise(s:MS)(a t:Int):MS×Int:=
 match aL a s.m with
 | none=>(s,19)
 | some x=>if ¬isT t then (s,11) else ({ s with m:=mset a ⟨if t>x.t then t else x.t,x.out,x.was,x.held⟩ s.m },0)
def MS.hold(s:MS)(a:Int)(b:Bool):MS×Int:=
 match aL a s.m with
 | none=>(s,19)
 | some x=>({ s with m:=mset a ⟨x.t,x.out,x.was,b⟩ s.m },0)
def MS.leave(s:MS)(a:Int):MS×Int:=
 match aL a s.m with
 | none=>(s,19)
 | some _=>({ s with m:=bT a s.m },0)
def jZ(lim:Int)(x:Fl):Fl:=⟨x.t,decide (x.t<lim),x.was||decide (x.t<lim),x.held⟩
def nL(lim:Int)(s:Int×Bool)(x:Fl):Int×Bool:=
 if ¬x.t<lim/\x.held=false/\(s.2=false\/x.t<s.1) then (x.t,true) else s
def j8(lim:Int)(m:FM):List Int->Int×Bool->Int×Bool
 | [],s=>s
 | k::r,s=>j8 lim m r (nL lim s ((aL k m).getD Fl.z))
abbrev maxI(a b:Int):Int:=if b>a then b else a
def MS.tick(s:MS)(now:Int):MS×Int:=
 if ¬isT now\/now<s.now then (s,11) else
 ({ s with now:=now,value:=maxI s.value (j8 (now-s.lag) s.m (sortI (aG s.m)) (now-s.lag,false)).1,m:=s.m.map λp=>(p.1,jZ (now-s.lag) p.2) },0)
section
variable {κ α:Type}[DecidableEq κ]
theorem JB{k:κ}{v:α}:∀{m:List (κ×α)},(aG m).Nodup->k∈aG m->(m.map λp=>if p.1=k then (k,v) else p).Perm (mset k v m)
 | [],_,h=>by simp at h
 | p::r,hn,h=>by
  simp only[aG,V5,Wv]at hn
  by_cases e:p.1=k
  .have a:k∉aG r:=by rw[<-e];exact hn.1
   have e1:(r.map λp=>if p.1=k then (k,v) else p)=r:=by
    conv=>rhs;rw[<-List.map_id r]
    apply Wp;intro q b;rw[UW (λe2=>a (by rw[<-e2];exact Vh.2 ⟨q,b,rfl⟩))];rfl
   have e2:bT k (p::r)=r:=by
    have:bT k (p::r)=bT k r:=by simp[bT,VD,e]
    rw[this,kG (fp.2 a)]
   rw[V5,UX e,e1];unfold mset;rw[e2]
  .have a:k∈aG r:=by
    simp only[aG,V5,Vm]at h;exact h.resolve_left (λe2=>e e2.symm)
   rw[V5,UW e];refine ((JB (m:=r) hn.2 a).cons p).trans ?_;unfold mset;have:bT k (p::r)=p::bT k r:=by simp[bT,VD,e]
   rw[this];exact .swap _ _ _
theorem wY{β:Type}{f:κ->α->β}{k:κ}:∀{m:List (κ×α)},aL k (m.map λp=>(p.1,f p.1 p.2))=(aL k m).map (f k)
 | []=>rfl
 | p::r=>by
  have a:=wY (f:=f) (k:=k) (m:=r);simp only[V5,aL]
  split
  .rename_i e;rw[<-e];rfl
  .exact a
omit [DecidableEq κ] in
theorem JC{β:Type}{f:κ->α->β}{m:List (κ×α)}:aG (m.map λp=>(p.1,f p.1 p.2))=aG m:=by simp[aG,Function.comp_def]
end
theorem JD:∀(n:Nat) (l:List Int),l.Nodup->(∀x∈l,0<=x/\x<(n:Int))->l.length<=n
 | 0,l,_,h=>by
  cases l with
  | nil=>simp
  | cons a r=>have:=h a (by simp);omega
 | n+1,l,hn,h=>by
  have e:=JD n (l.erase (n:Int)) (hn.erase _) (λx c=>by
   have b:=(hn.mem_erase_iff).1 c;have:=h x b.2;have:=b.1;omega)
  have d:l.length<=(l.erase (n:Int)).length+1:=by
   by_cases hm:(n:Int)∈l
   .rw [List.length_erase_of_mem hm];omega
   .rw [List.erase_of_not_mem hm];omega
  omega
theorem MOk.le{s:MS}(h:MOk s):s.m.length<=64:=by
 have:=JD 64 (aG s.m) h.nd (λx a=>by
  obtain⟨p,b,rfl⟩:=Vh.1 a;exact (h.rows p b).1)
 simpa[aG] using this
theorem MOk.wf{s:MS}(h:MOk s):∀x∈aG s.m,aF x:=by
 intro x a;obtain⟨p,b,rfl⟩:=Vh.1 a;have:=(h.rows p b).1;unfold aF;omega
theorem MOk.look{s:MS}(h:MOk s){a:Int}{x:Fl}(b:aL a s.m=some x):isAg a/\isT x.t:=h.rows _ (gY b)
theorem MOk.new{lag:Int}(a:1<=lag)(b:lag<=1099511627776):MOk (MS.new lag):=
 ⟨a,b,⟨by simp[MS.new],by simp[MS.new]⟩,V7 _,by simp only[MS.new];omega,by simp[MS.new],λp c=>by simp[MS.new]at c⟩
theorem MOk.mset{s:MS}(h:MOk s){a:Int}{x:Fl}(d:isAg a)(c:isT x.t):MOk { s with m:=mset a x s.m }:=
 ⟨h.l1,h.l2,h.n,h.v1,h.v2,oF h.nd,λp b=>by
  rcases Vm.1 b with rfl|b
  .exact⟨d,c⟩
  .exact h.rows p (rj.1 b).1⟩
theorem MOk.join{s:MS}(h:MOk s)(a t:Int):MOk (s.join a t).1:=by
 unfold MS.join
 split
 .exact h
 .rename_i b
  split
  .exact h
  .exact h.mset (by omega) (by simp only;omega)
theorem MOk.raise{s:MS}(h:MOk s)(a t:Int):MOk (s.raise a t).1:=by
 unfold MS.raise
 split
 .exact h
 .rename_i x c;have b:=h.look c
  split
  .exact h
  .refine h.mset b.1 ?_;simp only
   split <;> omega
theorem MOk.hold{s:MS}(h:MOk s)(a:Int)(b:Bool):MOk (s.hold a b).1:=by
 unfold MS.hold
 split
 .exact h
 .rename_i x c;exact h.mset (h.look c).1 (h.look c).2
theorem MOk.leave{s:MS}(h:MOk s)(a:Int):MOk (s.leave a).1:=by
 unfold MS.leave
 split
 .exact h
 .exact⟨h.l1,h.l2,h.n,h.v1,h.v2,rk h.nd,λp b=>h.rows p (rj.1 b).1⟩
theorem JE{lim:Int}{m:FM}(hm:∀p∈m,isT p.2.t):∀(ks:List Int) (s:Int×Bool),(s.1<=4611686018427387903)->(j8 lim m ks s).1<=4611686018427387903
 | [],s,h=>h
 | k::r,s,h=>by
  refine JE hm r _ ?_;unfold nL
  split
  .simp only
   cases hk:aL k m with
   | none=>simp[Fl.z]
   | some x=>exact (hm _ (gY hk)).2
  .exact h
theorem MOk.tick{s:MS}(h:MOk s)(now:Int):MOk (s.tick now).1:=by
 unfold MS.tick
 split
 .exact h
 .rename_i c;have:=h.l1;have:=h.v1;have:=h.v2;have d:=JE (lim:=now-s.lag) (λp a=>(h.rows p a).2) (sortI (aG s.m)) (now-s.lag,false) (by simp only;omega)
  refine⟨h.l1,h.l2,⟨by simp only;omega,by simp only;omega⟩,?_,?_,?_,λp a=>?_⟩
  .simp only[maxI];split <;> omega
  .simp only[maxI];split <;> omega
  .exact (congrArg List.Nodup (JC (f:=λ_ x=>jZ (now-s.lag) x) (m:=s.m))).mpr h.nd
  .obtain⟨q,b,rfl⟩:=Vh.1 a;exact h.rows q b
def mjT(lim:Int)(m:FM)(l:List Int):FM:=m.map λp=>(p.1,if p.1∈l then jZ lim p.2 else p.2)
theorem mjT_nil(lim:Int)(m:FM):mjT lim m []=m:=by
 unfold mjT
 conv=>rhs;rw[<-List.map_id m]
 apply Wp;intro p _;simp
theorem mjT_all{lim:Int}{m:FM}{l:List Int}(h:∀x∈aG m,x∈l):mjT lim m l=m.map λp=>(p.1,jZ lim p.2):=by
 unfold mjT;apply Wp;intro p a;rw[UX (h p.1 (Vh.2 ⟨p,a,rfl⟩))]
theorem JG(lim:Int)(m:FM)(l:List Int):aG (mjT lim m l)=aG m:=JC (f:=λk x=>if k∈l then jZ lim x else x) (m:=m)
theorem mjT_look(lim:Int)(m:FM)(l:List Int)(k:Int):aL k (mjT lim m l)=(aL k m).map λx=>if k∈l then jZ lim x else x:=wY (f:=λk x=>if k∈l then jZ lim x else x) (m:=m)
theorem mjT_step{lim:Int}{m:FM}{l:List Int}{k:Int}{x:Fl}(c:(aG m).Nodup)(b:aL k m=some x):(mset k (jZ lim x) (mjT lim m l)).Perm (mjT lim m (l++[k])):=by
 have a:k∈aG (mjT lim m l):=by
  rw[JG];exact Vh.2 ⟨_,gY b,rfl⟩
 refine (JB (by rw[JG];exact c) a).symm.trans ?_;have:(mjT lim m l).map (λp=>if p.1=k then (k,jZ lim x) else p)=mjT lim m (l++[k]):=by
  unfold mjT;rw[VM];apply Wp;intro p h;simp only[Function.comp_def,Vz,Vo]
  by_cases e:p.1=k
  .have d:p.2=x:=by
    have:=md c (show (p.1,p.2)∈m from h);rw[e,b]at this;exact (Option.some.inj this).symm
   rw[UX e,UX (Or.inr e),d,e]
  .rw [UW e]
   by_cases e2:p.1∈l
   .rw [UX e2,UX (Or.inl e2)]
   .rw [UW e2,UW (λf=>f.elim e2 e)]
 rw[this]
theorem JH(lim:Int)(m:FM):∀(l r:List Int) (s:Int×Bool),j8 lim m (l++r) s=j8 lim m r (j8 lim m l s)
 | [],_,_=>rfl
 | k::l,r,s=>JH lim m l r _
theorem S9{l:List Int}(h:l.Nodup):(sortI l).Nodup:=(qe l).nodup_iff.2 h
theorem JI{l:List Int}{x:Int}:x∈sortI l↔x∈l:=(qe l).mem_iff
theorem SB{l:List Int}(h:l.Nodup){j:Nat}(c:j<l.length):l[j]∉l.take j:=by
 intro hm;obtain⟨i,hi,b⟩:=VU hm;rw[List.getElem_take]at b;have a:i<j:=by simp at hi;omega
 exact Yi.1 h i j _ c a b
namespace Ma
theorem mt45:l9 Tryz.prog 250 2 185 mI Fl.z:=qf Tryz.underlying250 (by kernel_rfl)
theorem ko2:nr Tryz.prog 2 aB:=vE Tryz.underlying2
abbrev markC(mb rb:Nat)(s:MS):aE:=cellsA mb [aB s.lag,aB s.now,aB s.value,.map (some rb)] 252
abbrev mapF(rb:Nat)(m:FM):aE:=mapA aB mI rb m
section
variable {mb rb:Nat}{s:MS}{F:List aE}{H:aC}{K:KE}
theorem isTime_spec{t:Int}:bU Tryz.prog 231 #[aB t] H (.bool (decide (isT t))):=by
 refine cM 231 28 ⟨congrArg Value.bool ?_,rfl⟩;rw[VH];simp[isT]
theorem JJ{a:Int}:bU Tryz.prog 230 #[aB a] H (.bool (decide (isAg a))):=by
 refine cM 230 28 ⟨congrArg Value.bool ?_,rfl⟩;rw[VH];simp[isAg]
theorem Now_spec(h:aA H F)(i:Nat)(a:aW i F=markC mb rb s):bU Tryz.prog 50 #[.pointer (some ⟨mb,0,none⟩)] H (aB s.now):=by
 unfold bU;refine cM 50 28 ?_;exact⟨_,h.rd i a _,rfl,rfl⟩
theorem Value_spec(h:aA H F)(i:Nat)(a:aW i F=markC mb rb s):bU Tryz.prog 52 #[.pointer (some ⟨mb,0,none⟩)] H (aB s.value):=by
 unfold bU;refine cM 52 28 ?_;exact⟨_,h.rd i a _,rfl,rfl⟩
theorem New_spec{lag:Int}(h:aA H F)(k1:lag<1\/1099511627776<lag->K (.tuple #[.pointer none,aB 11]) H)
  (k2:1<=lag->lag<=1099511627776->∀mb rb b,aA b (markC mb rb (MS.new lag)::mapF rb []::F)->K (.tuple #[.pointer (some ⟨mb,0,none⟩),aB 0]) b) :
  CF 181 #[aB lag] H K:=by
 refine cM 181 476 ⟨λa=>k1 (by simpa using a),λa=>?_⟩
 have a:1<=lag/\lag<=1099511627776:=by simp at a;omega
 refine h.alm aB mI λrb _ h=>?_
 rw[aJ (x:=0-lag)];refine h.al λmb _ h=>k2 a.1 a.2 mb rb _ ?_
 have e:(0:Int)-lag=-lag:=by omega
 rw[e]at h;exact h
theorem Of_spec{a:Int}(h:aA H (markC mb rb s::mapF rb s.m::F))
  (k:∀b,aA b (markC mb rb s::mapF rb s.m::F)->K (.tuple #[mI ((aL a s.m).getD Fl.z),.bool (aL a s.m).isSome]) b) :
  CF 118 #[.pointer (some ⟨mb,0,none⟩),aB a] H K:=by
 refine cM 118 284 ?_;refine h.al λ_ _ h=>?_;refine⟨_,Ra2,?_⟩
 refine⟨_,_,_,_,_,h.mp_get mt45 ko2 2 rfl,?_⟩
 repeat (first|refine h.al λ_ _ h=>?_|refine St3 h λ_ h=>?_|refine⟨_,_,_,_,Rs3,?_⟩)
 exact k _ h.tl.tl
theorem Join_spec{a t:Int}(h:aA H (markC mb rb s::mapF rb s.m::F))
  (k:∀d,aA d (markC mb rb (s.join a t).1::mapF rb (s.join a t).1.m::F)->K (aB (s.join a t).2) d) :
  CF 146 #[.pointer (some ⟨mb,0,none⟩),aB a,aB t] H K:=by
 refine cM 146 30546716 ?_;refine⟨_,JJ,_,λ_=>isTime_spec,λb=>?_,λb=>?_⟩
 .have e:s.join a t=(s,11):=UX (by simp only[Vr,V1,Ve]at b;exact b);rw[e]at k;exact k _ h
 have f:¬(¬isAg a\/¬isT t):=by simpa using b
 refine⟨_,Ra1,?_⟩;refine⟨_,_,_,_,_,h.mp_get mt45 ko2 1 rfl,?_⟩;refine h.al λ_ _ h=>?_;refine St1 h λ_ h=>?_
 cases hl:aL a s.m with
 | some x=>
  have e:s.join a t=(s,18):=by unfold MS.join;rw[UW f,hl]
  rw[e]at k;exact⟨λ_=>k _ h.tl,λc=>by cases c⟩
 | none=>
  have e:s.join a t=({ s with m:=mset a ⟨t,false,false,false⟩ s.m },0):=by unfold MS.join;rw[UW f,hl]
  rw[e]at k;refine⟨λc=>(by cases c),λ_=>?_⟩
  refine⟨_,Ra2,?_⟩;exact h.mp_update (α:=Fl) (v:=⟨t,false,false,false⟩) mt45 ko2 2 rfl λd h=>k _ h.tl
theorem Leave_spec{a:Int}(h:aA H (markC mb rb s::mapF rb s.m::F))
  (k:∀c,aA c (markC mb rb (s.leave a).1::mapF rb (s.leave a).1.m::F)->K (aB (s.leave a).2) c) :
  CF 144 #[.pointer (some ⟨mb,0,none⟩),aB a] H K:=by
 refine cM 144 1186588 ?_;refine⟨_,Ra1,?_⟩;refine⟨_,_,_,_,_,h.mp_get mt45 ko2 1 rfl,?_⟩;refine h.al λ_ _ h=>?_;refine St1 h λ_ h=>?_
 cases hl:aL a s.m with
 | none=>
  have e:s.leave a=(s,19):=by unfold MS.leave;rw[hl]
  rw[e]at k;exact⟨λ_=>k _ h.tl,λb=>by cases b⟩
 | some x=>
  have e:s.leave a=({ s with m:=bT a s.m },0):=by unfold MS.leave;rw[hl]
  rw[e]at k;refine⟨λb=>(by cases b),λ_=>?_⟩
  refine⟨_,Ra2,?_⟩;exact h.mp_delete mt45 ko2 2 rfl λc h=>k _ h.tl
theorem Clone_spec(h:aA H (markC mb rb s::mapF rb s.m::F))
  (k:∀b a c,aA c (markC b a s::mapF a s.m::markC mb rb s::mapF rb s.m::F)->K (.pointer (some ⟨b,0,none⟩)) c) :
  CF 59 #[.pointer (some ⟨mb,0,none⟩)] H K:=by
 refine cM 59 4380 ?_;refine⟨_,_,_,_,h.q 0,?_⟩
 repeat (first|refine h.al λ_ _ h=>?_|refine⟨_,Ra2,?_⟩|refine St2 h λ_ h=>?_)
 refine ET h 2 rfl λc h _=>⟨_,rfl,?_⟩
 refine h.st 1 rfl rfl λ_ h=>?_
 exact k _ _ _ (h.o [1,0,2,3] 4)
theorem AJ{a:Int}{f:FuncId}{cap:Os}(c:bI f X.calls=true)(h:aA H (markC mb rb s::mapF rb s.m::F))
  (k1:aL a s.m=none->∀t,aA t (markC mb rb s::mapF rb s.m::F)->K (aB 19) t)
  (hb:∀x,aL a s.m=some x->∀b y,aA y (cellsA b (encF x) 185::markC mb rb s::mapF rb s.m::F)->
   CF f ⟨(.pointer (some ⟨b,0,none⟩))::cap⟩ y λu k=>(∃r:Int,u=aB r/\r≠0/\K (aB r) k)\/
    (u=aB 0/\∃e j,aA k (cellsA b (encF e) 185::markC mb rb s::mapF rb s.m::j)/\∀w,aA w (markC mb rb s::mapF rb (mset a e s.m)::j)->K (aB 0) w)) :
  CF 151 #[.pointer (some ⟨mb,0,none⟩),aB a,.func (.func f) #[] ⟨cap⟩] H K:=by
 refine cM 151 298982172 ?_;refine⟨_,Ra1,?_⟩;have d:=h.mp_get mt45 ko2 1 rfl (x:=a)
 cases hm:aL a s.m with
 | none=>
  rw[hm]at d;refine⟨_,_,_,_,_,d,?_⟩;refine h.al λ_ _ h=>?_;refine St1 h λ_ h=>?_
  exact⟨λ_=>k1 hm _ h.tl,λc=>by cases c⟩
 | some x=>
  rw[hm]at d;refine⟨_,_,_,_,_,d,?_⟩;refine h.al λ_ _ h=>?_;refine St1 h λ_ h=>?_
  refine⟨λc=>(by cases c),λ_=>⟨c,(hb x hm _ _ h).mono λu k A=>?_⟩⟩
  rcases A with ⟨r,rfl,B,n⟩|⟨rfl,e,j,i,n⟩
  .exact⟨r,rfl,λ_=>n,λc=>UY (by simpa using c) B⟩
  .refine⟨0,rfl,λc=>by simp at c,λ_=>?_⟩
   refine⟨_,i.r 1,_,_,_,_,i.q 0,?_⟩;exact i.mp_update (α:=Fl) (v:=e) mt45 ko2 2 rfl λt h=>n _ h.tl
theorem Raise_spec{a t:Int}(h:aA H (markC mb rb s::mapF rb s.m::F))
  (k:∀i,aA i (markC mb rb (s.raise a t).1::mapF rb (s.raise a t).1.m::F)->K (aB (s.raise a t).2) i) :
  CF 157 #[.pointer (some ⟨mb,0,none⟩),aB a,aB t] H K:=by
 refine cM 157 28 ?_;refine h.al λc _ h=>?_
 refine AJ (F:=cellsA c [aB t] 2::F) (by kernel_rfl) (h.o [1,2,0] 3) (λn i h=>⟨_,rfl,?_⟩) λx j b v h=>?_
 .have e:s.raise a t=(s,19):=by unfold MS.raise;rw[n]
  rw[e]at k;exact k _ (h.o [0,1] 3)
 refine cM 245 7452 ?_;refine⟨_,h.r 3,_,isTime_spec,λd=>?_,λd=>?_⟩
 .have f:¬isT t:=by simp only[V1,Ve]at d;exact d
  have e:s.raise a t=(s,11):=by unfold MS.raise;rw[j];exact UX f
  rw[e]at k;exact .inl ⟨11,rfl,by decide,_,rfl,k _ (h.o [1,2] 4)⟩
 .have f:¬¬isT t:=by simpa using d
  have e:s.raise a t=({ s with m:=mset a ⟨if t>x.t then t else x.t,x.out,x.was,x.held⟩ s.m },0):=by unfold MS.raise;rw[j];exact UW f
  rw[e]at k;refine⟨_,h.r 0,_,h.r 3,?_⟩;refine h.st 0 rfl rfl λ_ h=>.inr ⟨rfl,⟨if t>x.t then t else x.t,x.out,x.was,x.held⟩,_,h,λu h=>⟨_,rfl,?_⟩⟩
  exact k _ (h.o [0,1] 3)
theorem Hold_spec{a:Int}{v:Bool}(h:aA H (markC mb rb s::mapF rb s.m::F))
  (k:∀d,aA d (markC mb rb (s.hold a v).1::mapF rb (s.hold a v).1.m::F)->K (aB (s.hold a v).2) d) :
  CF 68 #[.pointer (some ⟨mb,0,none⟩),aB a,.bool v] H K:=by
 refine cM 68 28 ?_;refine h.al λc _ h=>?_
 refine AJ (F:=cellsA c [.bool v] 4::F) (by kernel_rfl) (h.o [1,2,0] 3) (λi d h=>⟨_,rfl,?_⟩) λx f b n h=>?_
 .have e:s.hold a v=(s,19):=by unfold MS.hold;rw[i]
  rw[e]at k;exact k _ (h.o [0,1] 3)
 refine cM 152 284 ?_;have e:s.hold a v=({ s with m:=mset a ⟨x.t,x.out,x.was,v⟩ s.m },0):=by unfold MS.hold;rw[f]
 rw[e]at k;refine⟨_,h.r 3,?_⟩;refine h.st 0 rfl rfl λ_ h=>.inr ⟨rfl,⟨x.t,x.out,x.was,v⟩,_,h,λj h=>⟨_,rfl,?_⟩⟩
 exact k _ (h.o [0,1] 3)
end
section
variable {mb rb:Nat}{s:MS}{F:List aE}{H:aC}{K:KE}
theorem All_spec(h:aA H F)(k:∀c0 a,aA a (cellsA c0 [.pointer (some ⟨mb,0,none⟩)] 140::F)->K (.func (.func 295) #[] #[.pointer (some ⟨c0,0,none⟩)]) a) :
  CF 246 #[.pointer (some ⟨mb,0,none⟩)] H K:=by
 refine cM 246 28 ?_;refine h.al λ_ _ h=>?_
 exact k _ _ h
abbrev dz(s:MS):List Int:=sortI (aG s.m)
abbrev atF(s:MS)(a:Int):Fl:=(aL a s.m).getD Fl.z
theorem ks_len:(dz s).length=s.m.length:=by simp[dz,vG,aG]
theorem All1_spec{l c0:Nat}(ok:MOk s)(A:Nat->aE)(I:aE)(B:aE)
  (h:aA H (markC mb rb s::mapF rb s.m::B::cellsA c0 [.pointer (some ⟨mb,0,none⟩)] 140::F))
  (E:∀G b,aA b (markC mb rb s::mapF rb s.m::B::G)->aA b (A 0::G))
  (N:∀j (J:j<(dz s).length) (G:List aE) (C:aC) (w:KE),aA C (A j::G)->(∀e,aA e (A (j+1)::G)->w (.bool true) e)->(∀e,aA e (I::G)->w (.bool false) e)->
   fI Tryz.prog l [aB (dz s)[j],mI (atF s (dz s)[j])] C w)
  (k:∀b,aA b (A (dz s).length::cellsA c0 [.pointer (some ⟨mb,0,none⟩)] 140::F)->K (.tuple #[]) b)
  (Q:∀b,aA b (I::cellsA c0 [.pointer (some ⟨mb,0,none⟩)] 140::F)->K (.tuple #[]) b) :
  CF 295 #[.func (.yield l) #[] #[],.pointer (some ⟨c0,0,none⟩)] H K:=by
 refine cN 295 0x11561239925113994 [[(15,sI)]] ?_;have R:=ok.le;have L:(dz s).length=s.m.length:=ks_len;refine⟨_,Ra4,?_⟩;refine⟨_,Ra4,?_⟩;refine ET h 1 rfl λC M _=>⟨_,rfl,?_⟩
 refine ON ⟨_,_,rfl,?_⟩;refine OO M 0 rfl ok.wf (by omega) λa c e y _=>⟨_,_,_,rfl,?_⟩
 have y:=E _ _ (y.o [2,3,4,0,1] 5);refine⟨λt b=>∃j:Nat,t=j/\j<=(dz s).length/\aA b (A j::slA 2 1 a s.m.length c ((dz s).map aB)::mapF H.size s.m::cellsA c0 [.pointer (some ⟨mb,0,none⟩)] 140::F),
  λt _=>(dz s).length-t.toNat,⟨0,rfl,V3 _,y⟩,?_⟩
 rintro t O ⟨j,rfl,J,i⟩;refine⟨λn=>?_,λn=>?_⟩
 .have d:j<(dz s).length:=by have:=Va n;omega
  have f:=(i.sl_rd 1 rfl).at d;have u:=i.mp_get1 mt45 ko2 2 rfl (x:=(dz s)[j]);refine⟨⟨by omega,by omega⟩,_,_,f.1,_,f.2,_,_,_,_,u,?_⟩;refine N j d _ O _ i (λP D=>⟨true,rfl,λv=>(by cases v),λ_=>?_⟩) λP D=>⟨false,rfl,λ_=>?_,λv=>(by cases v)⟩
  .conv=>whnf
   rw[aJ];exact⟨⟨j+1,rfl,d,D⟩,by simp only[Vi];omega⟩
  .exact Q _ (D.o [0,3] 4)
 .obtain rfl:j=(dz s).length:=by have:=Vb n;omega
  exact k _ (i.o [0,3] 4)
theorem SE{b c0 c1 c2 c3:Nat}{x:Fl}{now least:Int}{a:Bool}(j:1<=s.lag/\s.lag<=1099511627776)(m:isT now)
  (h:aA H (cellsA b (encF x) 185::markC mb rb s::cellsA c0 [aB now] 2::cellsA c1 [.pointer (some ⟨mb,0,none⟩)] 140::cellsA c2 [.bool a] 4::cellsA c3 [aB least] 2::F))
  (k:∀i,aA i (cellsA b (encF (jZ (now-s.lag) x)) 185::markC mb rb s::cellsA c0 [aB now] 2::cellsA c1 [.pointer (some ⟨mb,0,none⟩)] 140::cellsA c2 [.bool (nL (now-s.lag) (least,a) x).2] 4::cellsA c3 [aB (nL (now-s.lag) (least,a) x).1] 2::F)->K (aB 0) i) :
  CF 247 #[.pointer (some ⟨b,0,none⟩),.pointer (some ⟨c0,0,none⟩),.pointer (some ⟨c1,0,none⟩),.pointer (some ⟨c2,0,none⟩),.pointer (some ⟨c3,0,none⟩)] H K:=by
 refine Of ?_;refine⟨_,h.r 0,_,h.r 2,_,h.r 3,cY ⟨_,h.r 1,?_⟩⟩;dsimp only;rw[aJ (x:=now-s.lag)];refine h.st 0 rfl rfl λ_ h=>?_
 refine⟨_,h.r 0,λ_=>trivial,_,λ_=>h.r 0,?_⟩
 refine h.st 0 rfl rfl λ_ h=>?_
 refine⟨_,h.r 0,λ_=>trivial,_,λ_=>h.r 0,_,λ_=>h.r 4,λ_=>trivial,_,λ_=>h.r 0,_,λ_=>h.r 5,?_⟩
 intro n f;refine⟨λc=>?_,λc=>?_⟩
 .have e:nL (now-s.lag) (least,a) x=(x.t,true):=UX (by
   simp only[Vd,Vr,V1,Ve,Vc]at c;exact⟨c.1.1,c.1.2,c.2⟩)
  rw[e]at k;refine⟨_,h.r 0,?_⟩;refine h.st 5 rfl rfl λ_ h=>h.st 4 rfl rfl λ_ h=>f _ ?_
  exact k _ h
 .have e:nL (now-s.lag) (least,a) x=(least,a):=UW (λd=>by
   rw[<-Bool.not_eq_true]at c;apply c;simp only[Vd,Vr,V1,Ve,Vc];exact⟨⟨d.1,d.2.1⟩,d.2.2⟩)
  rw[e]at k;exact f _ (k _ h)
def tkA(mb rb b b1 lb fb l:Nat)(R:Loop)(s:MS)(now:Int)(j:Nat):aE:=
 star [markC mb rb { s with now:=now },mapF rb (mjT (now-s.lag) s.m ((dz s).take j)),cellsA b [.pointer (some ⟨mb,0,none⟩)] 140,cellsA b1 [aB now] 2,
  cellsA lb [aB (j8 (now-s.lag) s.m ((dz s).take j) (now-s.lag,false)).1] 2,cellsA fb [.bool (j8 (now-s.lag) s.m ((dz s).take j) (now-s.lag,false)).2] 4,pt l (.loop R)]
theorem SG{b b1 n fb j:Nat}{now:Int}{k u:aC}{R:Loop}{G:List aE}{v:KE}(ok:MOk s)(D:isT now)(t:j<(dz s).length)
  (h:aA u (tkA mb rb b b1 n fb (k.size+1) R s now j::G)) (B:∀w,aA w (tkA mb rb b b1 n fb (k.size+1) R s now (j+1)::G)->v (.bool true) w) :
  yT.y1 b b1 n 0 fb 0 k R [aB (dz s)[j],mI (atF s (dz s)[j])] u v:=by
 have h:=h.open;unfold yT.y1;refine⟨_,_,_,_,_,rfl,h.getO 6 rfl,h.getO 6 rfl,h.stl 6 rfl λH h=>⟨_,h.r 2,?_⟩⟩
 obtain⟨x,e⟩:∃x,aL (dz s)[j] s.m=some x:=by
  cases hm:aL (dz s)[j] s.m with
  | some x=>exact⟨x,rfl⟩
  | none=>exact UY (JI.1 (Vk t)) (fp.1 hm)
 have i:=SB (S9 ok.nd) t;have a:aL (dz s)[j] (mjT (now-s.lag) s.m ((dz s).take j))=some x:=by rw[mjT_look,e];simp[i]
 have y:(dz s).take (j+1)=(dz s).take j++[(dz s)[j]]:=VE t;refine AJ (s:={ s with now:=now,m:=mjT (now-s.lag) s.m ((dz s).take j) }) (f:=247) (by kernel_rfl) h (λd=>by rw[a]at d;cases d) λC c bb F h=>?_
 obtain rfl:x=C:=by rw[a]at c;exact Option.some.inj c
 refine SE (s:={ s with now:=now }) ⟨ok.l1,ok.l2⟩ D (h.o [0,1,4,3,6,5,2,7] 8) λE h=>.inr ⟨rfl,jZ (now-s.lag) x,_,h.o [0,1,6,2,3,4,5,7] 8,λI h=>⟨_,rfl,?_⟩⟩
 refine⟨h.getO 6 rfl,B _ ?_⟩;have h:=h.setO 6 rfl (.loop R);unfold tkA;refine aA.shut [_,_,_,_,_,_,_] ?_;have em:mapF rb (mset (dz s)[j] (jZ (now-s.lag) x) (mjT (now-s.lag) s.m ((dz s).take j)))=mapF rb (mjT (now-s.lag) s.m ((dz s).take j++[(dz s)[j]])):=ns (mjT_step ok.nd e);rw[y,JH,<-em];have A:j8 (now-s.lag) s.m [(dz s)[j]] (j8 (now-s.lag) s.m ((dz s).take j) (now-s.lag,false))=nL (now-s.lag) (j8 (now-s.lag) s.m ((dz s).take j) (now-s.lag,false)) x:=by
  show nL _ _ ((aL _ s.m).getD Fl.z)=_;rw[e];rfl
 rw[A];exact h.o [0,1,3,2,5,4,6] 7
theorem Tick_spec{now:Int}(ok:MOk s)(h:aA H (markC mb rb s::mapF rb s.m::F))
  (k:∀c,aA c (markC mb rb (s.tick now).1::mapF rb (s.tick now).1.m::F)->K (aB (s.tick now).2) c) :
  CF 158 #[.pointer (some ⟨mb,0,none⟩),aB now] H K:=by
 refine Oq ?_;refine h.al λb _ h=>h.al λb1 _ h=>?_
 refine⟨_,h.r 0,_,isTime_spec,_,λ_=>h.r 0,_,λ_=>h.rd (1) rfl _,λ_=>trivial,_,λ_=>h.r 2,λd=>?_,λd=>?_⟩
 .have e:s.tick now=(s,11):=UX (by simp only[Vr,V1,Ve,Vc]at d;exact d);rw[e]at k;exact k _ h.tl.tl
 have f:¬(¬isT now\/now<s.now):=by
  simp only[Vp,VI,Ve,Vc]at d;exact λD=>D.elim (λn=>n d.1) d.2
 have w:isT now:=by
  rcases Classical.em (isT now) with h|h
  .exact h
  .exact UY (Or.inl h) f
 have e:s.tick now=({ s with now:=now,value:=maxI s.value (j8 (now-s.lag) s.m (sortI (aG s.m)) (now-s.lag,false)).1,m:=s.m.map λp=>(p.1,jZ (now-s.lag) p.2) },0):=UW f
 rw[e]at k;have J:=ok.l1;have B:=ok.l2;refine⟨_,h.r 1,_,h.r 0,cY (h.st 2 rfl rfl λ_ h=>?_)⟩
 intro N M;have fin:∀a fb c,aA c (cellsA b1 [aB now] 2::cellsA b [.pointer (some ⟨mb,0,none⟩)] 140::cellsA a [aB (now-s.lag)] 2::cellsA fb [.bool false] 4::markC mb rb { s with now:=now }::mapF rb s.m::F)->N a 0 fb 0 c:=by
  intro a fb c h;refine M _ _ _ _ _ ?_;refine⟨_,h.r 1,All_spec h λc0 u h=>⟨_,_,rfl,rfl,λR t i C=>?_⟩⟩
  have h:=h.rng R;have h:aA _ (markC mb rb { s with now:=now }::mapF rb s.m::star [cellsA b [.pointer (some ⟨mb,0,none⟩)] 140,cellsA b1 [aB now] 2,cellsA a [aB (now-s.lag)] 2,cellsA fb [.bool false] 4,pt (u.size+1) (.loop R)]::cellsA c0 [.pointer (some ⟨mb,0,none⟩)] 140::pt u.size (.deferred (some []))::F):=
   (aA.shut [_,_,_,_,_] (h.o [4,3,5,6,0,7,8,2,1] 9)).o [1,2,0] 3
  refine All1_spec (s:={ s with now:=now }) ⟨ok.l1,ok.l2,w,ok.v1,ok.v2,ok.nd,ok.rows⟩ (λj=>tkA mb rb b b1 a fb (u.size+1) R s now j) (pur False) _ h (λG c h=>?_)
   (λj y G P O n I _=>C _ _ _ (SG ok w y n I)) (λL v=>?_) (λL v=>(aA.consP v).1.elim)
  .unfold tkA;rw[W4,mjT_nil];refine aA.shut [_,_,_,_,_,_,_] ?_;exact ((h.o [2,0,1] 3).open).o [5,6,0,1,2,3,4] 7
  .have h:=aA.open (A:=[_,_,_,_,_,_,_]) v;have e1:(dz { s with now:=now }).length=(dz s).length:=rfl;rw[e1,V2 (Vg _),mjT_all (λx E=>JI.2 E)]at h
   refine⟨.ready,none,by decide,by rw[nt t i];exact h.getO 6 rfl,h.stl 6 rfl λQ h=>⟨rfl,?_⟩⟩
   refine⟨_,h.r 2,_,h.r 2,cY ⟨_,h.r 0,_,h.r 4,cY (h.st 0 rfl rfl λ_ h=>⟨h.getO 8 rfl,?_⟩)⟩⟩
   have h:=h.setO 8 rfl (.deferred none);exact k _ (h.o [0,1] 9)
 refine⟨_,h.r 0,_,h.r 1,cY ⟨_,h.r 2,?_⟩⟩;dsimp only;rw[aJ (x:=now-s.lag)];refine⟨h.al λa _ h=>⟨h.r 3,h.r 2,h.r 1,h.al λfb _ h=>⟨h.r 4,h.r 3,h.r 2,h.st 1 rfl rfl λ_ h=>h.st 0 rfl rfl λ_ h=>?_⟩⟩,
  h.al λfb _ h=>⟨h.r 3,h.r 2,h.r 1,h.al λa _ h=>⟨h.r 4,h.r 3,h.r 2,h.st 0 rfl rfl λ_ h=>h.st 1 rfl rfl λ_ h=>?_⟩⟩⟩
 .exact fin a fb _ (h.o [2,3,1,0] 4)
 .exact fin a fb _ (h.o [2,3,0,1] 4)
end
section
variable {mb rb sb:Nat}{s:MS}{F:List aE}{H:aC}{K:KE}
theorem Set_spec{ag:FM}{ab:Nat}{now value:Int}(B:isT now)(E:1<=s.lag/\s.lag<=1099511627776)(I:now-s.lag<=value/\value<=now)(D:∀p∈ag,isAg p.1/\isT p.2.t)
  (h:aA H (markC mb rb s::mapF rb s.m::mapF ab ag::F))
  (k:∀d c,aA c (markC mb d ⟨s.lag,now,value,ag⟩::mapF d ag::mapF ab ag::F)->K (aB 0) c) :
  CF 204 #[.pointer (some ⟨mb,0,none⟩),aB now,aB value,.map (some ab)] H K:=by
 refine cN 204 0x1d121561239951d41c [[]] ?_;have e1:i64.wrap (now-s.lag)=now-s.lag:=aJ;refine⟨_,isTime_spec,λ_=>trivial,_,λ_=>h.r 0,?_⟩
 dsimp only
 conv=>whnf
 rw[e1,Vs B,VK (show ¬value<now-s.lag by omega),VK (show ¬now<value by omega)];refine⟨λa=>(by cases a),λ_=>?_⟩
 refine h.alm aB mI λb _ h=>?_
 refine h.rg_new mt45 3 rfl λn L h=>⟨n,rfl,?_⟩
 refine⟨λc=>∃dn:FM,aA c (mapF b dn::markC mb rb s::mapF rb s.m::kH aB mI n ab ag dn::F),λc=>ag.length-oI c n,⟨[],h⟩,?_⟩
 rintro G ⟨dn,h⟩;obtain⟨y,C⟩:=h.rg_count 3 rfl;refine h.rg_next 3 rfl (λA=>Or.inl ⟨rfl,λa=>(by cases a),λ_=>?_⟩) λp j w J h=>Or.inr ⟨_,_,rfl,λ_=>?_,λa=>(by cases a)⟩
 .have h:=h.rg_map 3 rfl;refine h.st 1 rfl rfl λ_ h=>h.st 1 rfl rfl λ_ h=>h.st 1 rfl rfl λ_ h=>k b _ ?_
  have em:mapF b dn=mapF b ag:=ns A;have h:=h.o [1,0,3] 4;simp only[ordT,aW,qZ,put,em]at h;exact h
 .have f:=aA.rg_entry (P:=Tryz.prog) h 3 rfl;obtain⟨u,e⟩:=h.rg_count 3 rfl;rw[UZ,VN]at u e;refine⟨_,_,_,_,_,f,?_⟩;refine h.al λb2 _ h=>?_
  refine h.st 0 rfl rfl λ_ h=>?_
  have x:=D p j;refine⟨_,JJ,_,λ_=>h.r 0,_,λ_=>isTime_spec,?_⟩
  rw[Vs x.1,Vs x.2];refine⟨λa=>(by cases a),λ_=>⟨_,_,_,_,h.q 0,?_⟩⟩
  refine h.mp_update (α:=Fl) (v:=p.2) mt45 ko2 1 rfl λM h=>⟨⟨dn++[p],?_⟩,?_⟩
  .have em:mapF b (mset p.1 p.2 dn)=mapF b (dn++[p]):=ns (by
    unfold mset;rw[kG (fp.2 w)];exact (List.perm_append_singleton p dn).symm)
   have h:=h.tl;simp only[put,em]at h;exact h
  .obtain⟨i,_⟩:=h.rg_count 4 rfl;rw[UZ,VN]at i;simp only;omega
end
end Ma
theorem SN{P:Program}{t e:TypeId}{n:Nat}{f:Nat->Int}{i:Int}(b:P.underlying t=some (.array n e))(c:∀w,(Go.sizeOf e).run P w=.ok 1 w)(h:∀w,(Go.isAgg e).run P w=.ok false w)(h0:0<=i)(d:i<n) :
  lU P (Instr.index t (.agg ⟨bW .u64 f n 0⟩) (aB i)) (.int .u64 (f i.toNat)):=by
 intro w;have a:=tX .u64 f n 0 i.toNat (by omega);rw[fL]at a;simp only[Instr.index,asIntOf,Sem.run_bind,Sem.run_pure,Result.andThen_ok,fm b];rw[UX ⟨h0,d⟩];simp only[Sem.run_bind,c,Result.andThen_ok,VT,part,h];simp[a]
def mJ:Nat->RS->List (Nat×Nat)×RS
 | 0,s=>([],s)
 | n+1,s=>(((bK s).1,(bK (bK s).2).1)::(mJ n (bK (bK s).2).2).1,(mJ n (bK (bK s).2).2).2)
def pj(prev:Option Nat)(p:Nat):Bool:=match prev with|some x=>decide (p<=x)|none=>false
def mK:List (Nat×Nat)->Option Nat->(Nat->Int)->Option (Nat->Int)
 | [],_,h=>some h
 | (p,q)::r,prev,h=>if pj prev p=true\/65<=p then none else if q=0\/9223372036854775807<q then none else mK r (some p) (eW h p q)
def qz(ps:List (Nat×Nat))(q:Nat):Option Nat:=if q=0 then none else some (ps.getD (q-1) (0,0)).1
def si(n0 n1 n2:Nat)(lo hi:Int)(t:List Int)(ps:List (Nat×Nat)):Cl×Int:=
 if 9223372036854775807<n0\/9223372036854775807<n1\/9223372036854775807<n2 then (Cl.z,10) else
 if t.length≠16 then (Cl.z,10) else
 match mK ps none Z0 with
 | none=>(Cl.z,10)
 | some h=>if fX ⟨n0,jm t,lo,hi,n1,n2,h⟩ then (⟨n0,jm t,lo,hi,n1,n2,h⟩,0) else (Cl.z,10)
def kg(bs:List Int):Cl×Int:=
 let a:=bK ⟨0,bs⟩
 let b:=bK a.2
 let c:=bK b.2
 let lo:=dF c.2
 let hi:=dF lo.2
 let t:=aZ 16 hi.2
 let n:=bX 65 t.2
 let p:=mJ n.1.toNat n.2
 if (dG p.2).e≠0 then (Cl.z,(dG p.2).e) else si a.1 b.1 c.1 lo.1 hi.1 t.1 p.1
theorem wZ{s:RS}(h:aH s.bs):aH (dF s).2.bs:=gH h
theorem JK(s:RS):(dF s).2.bs.length<=s.bs.length:=jM s
theorem JL:∀{l:List (Nat×Nat)} {a:Option Nat} {h g:Nat->Int},wfH h->mK l a h=some g->wfH g
 | [],_,h,g,hw,e=>by cases e;exact hw
 | (p,q)::r,a,h,g,hw,e=>by
  unfold mK at e
  split at e
  .cases e
  .split at e
   .cases e
   .rename_i c b;refine JL (l:=r) ?_ e;intro i hi;unfold eW
    split
    .unfold aF;omega
    .exact hw i hi
theorem SP{n0 n1 n2:Nat}{lo hi:Int}{t:List Int}{ps:List (Nat×Nat)}(hb:aH t)(c:aF lo)(a:aF hi):WC (si n0 n1 n2 lo hi t ps).1:=by
 unfold si
 split
 .exact WC.z
 .split
  .exact WC.z
  .split
   .exact WC.z
   .rename_i d _ g b
    split
    .exact⟨by unfold aF;dsimp only;omega,IE t hb,c,a,by unfold aF;dsimp only;omega,by unfold aF;dsimp only;omega,JL tY b⟩
    .exact WC.z
theorem SQ{bs:List Int}(hb:aH bs):WC (kg bs).1:=by
 unfold kg;dsimp only
 split
 .exact WC.z
 .exact SP (lF (wZ (wZ (gH (gH (gH (s:=⟨0,bs⟩) hb)))))).2 (rJ _) (rJ _)
theorem SR{bs:List Int}(h:(kg bs).2=0):fX (kg bs).1=true:=by
 unfold kg at h ⊢;dsimp only at h ⊢
 split
 .rename_i a;rw[UX a]at h;exact UY h a
 .rename_i a;rw[UW a]at h;unfold si at h ⊢
  split
  .rename_i b;rw[UX b]at h;cases h
  .rename_i b;rw[UW b]at h
   split
   .rename_i c;rw[UX c]at h;cases h
   .rename_i c;rw[UW c]at h
    split
    .rename_i d;rw[d]at h;cases h
    .rename_i g d;rw[d]at h;dsimp only at h
     split
     .assumption
     .rename_i e;rw[UW e]at h;cases h
theorem AK{s:RS}{m:Int}(h:aH s.bs)(hm:0<=m):0<=(bX m s).1/\(bX m s).1<=m:=by
 unfold bX
 split
 .exact⟨V7 _,hm⟩
 .split
  .split
   .exact⟨V7 _,hm⟩
   .simp only[]at *;omega
  .exact⟨V7 _,hm⟩
  .exact⟨V7 _,hm⟩
theorem sl279:SlT Tryz.prog 487 488 2 16:=iM (by kernel_rfl)
abbrev encP(p:Nat×Nat):Os:=[U64 p.1,U64 p.2]
theorem xa(p:Nat×Nat):(encP p).length=2:=rfl
def f3(a b c:Nat):Nat->Int:=λi=>match i with|0=>(a:Int)|1=>(b:Int)|_=>(c:Int)
section
variable {F L:List aE}{H:aC}{K:KE}
theorem idx278{a b c:Nat}{i:Int}(h0:0<=i)(d:i<3):lU Tryz.prog (Instr.index 486 (.agg #[U64 a,U64 b,U64 c]) (aD i)) (.int .u64 (f3 a b c i.toNat)):=
 SN (f:=f3 a b c) (n:=3) Tryz.underlying486 Tryz.sizeOf56 Tryz.isAgg56 h0 (by omega)
theorem SU{a:KQ}{c n:Nat}{bs:List Int}(hn:bs.length=n)(hb:aH bs)(h:aA H F)(ha:∀H,aA H F->aP H a (bs.map U8))(hl:n<=1000000000)
  (k:∀D,aA D F->K (.tuple #[aggC (kg bs).1,aD (kg bs).2]) D):CF 263 #[.slice a n c] H K:=by
 subst hn;refine Oc ?_;unfold kg at k;dsimp only at k;refine h.al λb _ h=>?_
 refine rG (bs:=bs) h (λH h=>ha H h.tl) (by omega) λrb H1 h=>⟨_,rfl,?_⟩
 have R:aH (⟨0,bs⟩:RS).bs:=hb;have hL0:(⟨0,bs⟩:RS).bs.length<=1000000000:=hl;refine nE h R (by omega) λH2 h=>⟨_,rfl,?_⟩
 have P:=gH R;have r8:=jM (⟨0,bs⟩:RS);generalize bK ⟨0,bs⟩=r1 at *;refine nE h P (by omega) λH3 h=>⟨_,rfl,?_⟩
 have Q:=gH P;have hL2:=jM r1.2;generalize bK r1.2=r2 at *;refine nE h Q (by omega) λH4 h=>⟨_,rfl,?_⟩
 have T:=gH Q;have hL3:=jM r2.2;generalize bK r2.2=r3 at *;refine h.al λb1 _ h=>?_
 refine h.sta 0 rfl rfl λH6 h=>?_
 have h:=h.o [1,0] 2;refine wh h T (by omega) λH7 h=>⟨_,rfl,?_⟩
 have M:=wZ T;have hL4:=JK r3.2;have l0:aF (dF r3.2).1:=rJ _;generalize dF r3.2=r4 at *;refine wh h M (by omega) λH8 h=>⟨_,rfl,?_⟩
 have O:=wZ M;have hL5:=JK r4.2;have h9:aF (dF r4.2).1:=rJ _;generalize dF r4.2=r5 at *;refine nD (most:=16) h O (by omega) (by decide) λH9 h=>⟨_,rfl,?_⟩
 have u:=(lF (m:=16) O);have hL6:=(mr r5.2 16);generalize aZ 16 r5.2=r6 at *;refine tG (most:=65) h u.1 (by omega) (by decide) λH10 h=>⟨_,rfl,?_⟩
 have j1:=rK (m:=65) u.1;have r9:=rL r6.2 65;have h6:=AK (m:=65) u.1 (by decide);generalize bX 65 r6.2=r7 at *;refine⟨λpa pn pc i D=>∃(j:Nat) (d:List (Nat×Nat)) (s:RS),i=j/\(j:Int)<=r7.1/\pn=d.length/\d.length=j/\aH s.bs/\s.bs.length<=1000000000/\
   mJ r7.1.toNat r7.2=(d++(mJ (r7.1.toNat-j) s).1,(mJ (r7.1.toNat-j) s).2)/\
   aA D (crdA rb s::slA 488 2 pa d.length pc (flat encP d)::cellsA b1 [U64 r1.1,U64 r2.1,U64 r3.1] 486::cellsA b (dx Cl.z) 161::F),
  λ_ _ _ i _=>(r7.1-i).toNat,⟨0,[],r7.2,rfl,h6.1,rfl,rfl,j1,by omega,rfl,?_⟩,?_⟩
 .exact ((h.sl_nil 488 2).o [1,0] 2)
 rintro pa pn pc i H11 ⟨j,d,s,rfl,hj,rfl,h3,w,hsl,e,h⟩;refine⟨λW=>?_,λW=>?_⟩
 .have f:=Va W;have hu1:=we w;have hu2:=we (gH w);refine nE h w (by omega) λH12 h=>⟨_,rfl,?_⟩
  have hl1:=jM s;refine nE h (gH w) (by omega) λu8 h=>⟨_,rfl,?_⟩
  have hl2:=jM (bK s).2;rintro b2 _ rfl rfl;refine h.append1 (ws:=encP ((bK s).1,(bK (bK s).2).1)) sl279 1 rfl rfl rfl (by omega) (by omega) λa' c' H15 h=>⟨_,_,_,rfl,?_⟩
  rw[show i64.wrap ((j:Int)+1)=((j+1:Nat):Int) by rw[aJ];omega];refine⟨⟨j+1,d++[((bK s).1,(bK (bK s).2).1)],(bK (bK s).2).2,rfl,by omega,by simp,by simp[h3],gH (gH w),by omega,?_,?_⟩,?_⟩
  .rw [e,show r7.1.toNat-j=(r7.1.toNat-(j+1))+1 by omega,mJ,Vj];rfl
  .rw [dT,nq,UZ];exact h
  .show (r7.1-((j+1:Nat):Int)).toNat<(r7.1-(j:Int)).toNat
   omega
 .have hge:=Vb W;have Y:r7.1.toNat-j=0:=by omega
  rw[Y,mJ,V4]at e;rw[e]at k;dsimp only at k;refine wi h λH16 h=>⟨_,rfl,λhe=>?_,λhe=>?_⟩
  .rw [UX (by simpa using he)]at k;refine h.sta 3 rfl rfl λv h=>⟨_,_,_,_,_,_,_,_,h.rda 3 rfl,k _ h.tl.tl.tl.tl⟩
  rw[UW (by simpa using he)]at k;unfold si at k;refine⟨_,_,_,h.rda 2 rfl,?_⟩;have h:=h.tl;refine⟨λi D=>∃t:Nat,i=t/\t<=3/\(∀q,q<t->f3 r1.1 r2.1 r3.1 q<=9223372036854775807)/\aA D (slA 488 2 pa d.length pc (flat encP d)::cellsA b1 [U64 r1.1,U64 r2.1,U64 r3.1] 486::cellsA b (dx Cl.z) 161::F),λi _=>3-i.toNat,⟨0,rfl,by omega,λ_ h=>by omega,h⟩,?_⟩
  rintro i y2 ⟨t,rfl,ht,V,h⟩;refine⟨λG=>?_,λG=>?_⟩
  .have f:t<3:=by have:=Va G;omega
   refine⟨_,idx278 (by omega) (by omega),?_⟩;rw[Vi];refine⟨λy=>?_,λy=>?_⟩
   .have y:=Va y;have:9223372036854775807<r1.1\/9223372036854775807<r2.1\/9223372036854775807<r3.1:=by
     unfold f3 at y
     split at y <;> omega
    rw[UX this]at k;refine h.sta 2 rfl rfl λv h=>⟨_,_,_,_,_,_,_,_,h.rda 2 rfl,k _ h.tl.tl.tl⟩
   .have y:=Vb y;rw[show i64.wrap ((t:Int)+1)=((t+1:Nat):Int) by rw[aJ];omega];refine⟨⟨t+1,rfl,f,λq h8=>?_,h⟩,by simp only[Vi];omega⟩
    rcases V0 q t with h1|h1
    .exact V q h1
    .obtain rfl:q=t:=by omega
     omega
  .have:t=3:=by have:=Vb G;omega
   subst this;have g0:(r1.1:Int)<=9223372036854775807:=V 0 (by decide);have g1:(r2.1:Int)<=9223372036854775807:=V 1 (by decide);have g2:(r3.1:Int)<=9223372036854775807:=V 2 (by decide);rw[nO]at k;refine⟨by decide,_,h.r 1,by decide,_,h.r 1,by decide,_,h.r 1,?_⟩;dsimp only;rw[aJ (x:=(r1.1:Int)) (by omega) g0,aJ (x:=(r2.1:Int)) (by omega) g1,aJ (x:=(r3.1:Int)) (by omega) g2];refine h.al λb3 _ h=>?_
   refine h.sta 0 rfl (by rw[UZ,rR,UZ,rR];rfl) λH21 h=>?_
   refine h.st 0 rfl rfl λH22 h=>?_
   refine h.st 0 rfl rfl λh7 h=>?_
   have h:aA h7 (cellsA b3 (dx ⟨r1.1,0,r4.1,r5.1,r2.1,r3.1,Z0⟩) 161::slA 488 2 pa d.length pc (flat encP d)::cellsA b1 [U64 r1.1,U64 r2.1,U64 r3.1] 486::cellsA b (dx Cl.z) 161::F):=h;refine wb u.2 h λa' c' H24 h=>⟨_,_,_,rfl,?_⟩
   refine RM (bs:=r6.1) rfl u.2 h (λH h=>h.sl_rd 0 rfl) (by omega) (λE l5 h=>⟨_,_,_,rfl,?_⟩) (λE l5 h=>⟨_,_,_,rfl,?_⟩)
   .rw [UX E]at k;refine h.al λb4 _ h=>?_
    refine h.sta 0 rfl rfl λh4 h=>⟨λ_=>?_,λhf=>by cases hf⟩
    refine h.sta 5 rfl rfl λv h=>⟨_,_,_,_,_,_,_,_,h.rda 5 rfl,k _ h.tl.tl.tl.tl.tl.tl⟩
   .rw [UW (λhh=>hh E)]at k
    refine h.al λb4 _ h=>?_
    refine h.sta 0 rfl rfl λh4 h=>⟨λhf=>(by cases hf),λ_=>?_⟩
    refine⟨_,_,h.rda 0 rfl,?_⟩;refine h.st 2 rfl rfl λh5 h=>?_
    have h:aA h5 (cellsA b4 [aD (cx (jm r6.1)),.int .u64 (wlo (jm r6.1))] 157::slA 5 1 a' r6.1.length c' (r6.1.map U8)::cellsA b3 (dx ⟨r1.1,jm r6.1,r4.1,r5.1,r2.1,r3.1,Z0⟩) 161::slA 488 2 pa d.length pc (flat encP d)::cellsA b1 [U64 r1.1,U64 r2.1,U64 r3.1] 486::cellsA b (dx Cl.z) 161::F):=h;have h:=h.o [2,3,5] 6;refine⟨λi D=>∃(q:Nat) (g:Nat->Int),i=q/\q<=d.length/\wfH g/\mK d none Z0=mK (d.drop q) (qz d q) g/\aA D (cellsA b3 (dx ⟨r1.1,jm r6.1,r4.1,r5.1,r2.1,r3.1,g⟩) 161::slA 488 2 pa d.length pc (flat encP d)::cellsA b (dx Cl.z) 161::F),λi _=>d.length-i.toNat,
     ⟨0,Z0,rfl,V3 _,tY,rfl,h⟩,?_⟩
    rintro i H30 ⟨q,g,rfl,h8,y,e2,h⟩;refine⟨λL=>?_,λL=>?_⟩
    .have f:q<d.length:=by have:=Va L;omega
     have B:=h.sl_rd 1 rfl;rw[VP f,mK]at e2;refine⟨⟨by omega,by omega⟩,_,_,B.some xa (by omega) f,_,_,B.els xa f,?_⟩;refine h.al λb6 _ h=>?_
     refine h.sta 0 rfl rfl λj2 h=>?_
     have B:=h.sl_rd 2 rfl;have I:((decide (0<(q:Int)))=true)->aK j2 (aV pa) (aS pa+(i64.wrap ((q:Int)-1)).toNat*2+0)=some (.int .u64 ((d.getD (q-1) (0,0)).1:Nat)):=by
      intro h0;have h0:=Va h0;rw[aJ (x:=(q:Int)-1),show ((q:Int)-1).toNat=q-1 by omega];have N:q-1<d.length:=by omega
      have:=(B.els xa N).1;rw[WN,List.getElem?_eq_getElem N];exact this
     refine⟨λ_=>by decide,_,λ_=>h.r 0,λh0=>by have h0:=Va h0;rw[aJ (x:=(q:Int)-1)];omega,_,_,λ_=>B.some xa (by omega) f,λ_=>by decide,_,I,λ_=>by decide,_,λ_=>h.r 0,?_⟩
     have l6:((decide (0<(q:Int))&&decide (((d[q].1:Nat):Int)<=(((d.getD (q-1) (0,0)).1:Nat):Int)))||decide (65<=((d[q].1:Nat):Int)))=(pj (qz d q) d[q].1||decide (65<=d[q].1)):=by
      unfold qz
      rcases WS q with h0|h0
      .subst h0;rw[UX rfl];simp[pj];omega
      .rw [nO];rw[VH];simp only[pj,Vr,Vd,Vc,W2];omega
     dsimp only;rw[l6];have C:(pj (qz d q) d[q].1||decide (65<=d[q].1))=true↔(pj (qz d q) d[q].1=true\/65<=d[q].1):=by rw[Vr,Vc]
     refine⟨λA=>?_,λA=>?_⟩
     .rw [UX (C.1 A)]at e2;rw[e2]at k;refine h.sta 3 rfl rfl λv h=>⟨_,_,_,_,_,_,_,_,h.rda 3 rfl,k _ h.tl.tl.tl.tl⟩
     have Z:¬(pj (qz d q) d[q].1=true\/65<=d[q].1):=λhh=>by rw[C.2 hh]at A;cases A
     rw[UW Z]at e2;refine⟨by decide,_,h.r 0,λ_=>by decide,_,λ_=>h.r 0,λJ=>?_,λJ=>?_⟩
     .have:d[q].2=0\/9223372036854775807<d[q].2:=by
       simp only[Vr,Vc]at J;omega
      rw[UX this]at e2;rw[e2]at k;refine h.sta 3 rfl rfl λv h=>⟨_,_,_,_,_,_,_,_,h.rda 3 rfl,k _ h.tl.tl.tl.tl⟩
     have r0:¬(d[q].2=0\/9223372036854775807<d[q].2):=by
      simp only[Vp,Ve]at J;omega
     rw[UW r0]at e2;have U:d[q].1<65:=by omega
     refine⟨by decide,_,h.r 0,by decide,_,h.rd 0 rfl _,⟨by omega,by omega⟩,?_⟩;rw[aJ (x:=((d[q].2:Nat):Int)),Vi];have S:cv (dx ⟨r1.1,jm r6.1,r4.1,r5.1,r2.1,r3.1,g⟩) (7+d[q].1) [aD (d[q].2:Nat)]=dx ⟨r1.1,jm r6.1,r4.1,r5.1,r2.1,r3.1,eW g d[q].1 (d[q].2:Nat)⟩:=by
      refine (tg [aD (d[q].2:Nat)] [_,_,_,_,_,_,_] (bW .i64 g 65 0) d[q].1).trans ?_;have e3:cv (bW .i64 g 65 0) d[q].1 [aD (d[q].2:Nat)]=bW .i64 (eW g d[q].1 (d[q].2:Nat)) 65 0:=by
       show (bW .i64 g 65 0).set d[q].1 (aD (d[q].2:Nat))=_;rw[zW _ _ _ _ _ _ U,Vw]
      rw[e3]
     refine⟨h.can 1 rfl _ _ (by rw[kO];simp;omega),?_⟩;intro H35 h2;have h:=h.set 1 rfl (7+d[q].1) [aD (d[q].2:Nat)];rw[S,<-h2]at h;rw[show i64.wrap ((q:Int)+1)=((q+1:Nat):Int) by rw[aJ];omega];refine⟨⟨q+1,eW g d[q].1 (d[q].2:Nat),rfl,f,?_,?_,h.tl⟩,by simp only[Vi];omega⟩
     .intro i hi;unfold eW
      split
      .unfold aF;omega
      .exact y i hi
     .rw [e2];congr 1;unfold qz;rw[nO,Yg,WN,List.getElem?_eq_getElem f];rfl
    .have j3:q=d.length:=by have:=Vb L;omega
     subst j3;rw[VY,mK]at e2;rw[e2]at k;dsimp only at k;refine⟨_,_,_,_,_,_,_,_,h.rda 0 rfl,?_⟩;have wc:WC ⟨r1.1,jm r6.1,r4.1,r5.1,r2.1,r3.1,g⟩:=⟨by unfold aF;dsimp only;omega,IE _ u.2,l0,h9,by unfold aF;dsimp only;omega,by unfold aF;dsimp only;omega,y⟩;refine tZ wc h λy3 h=>⟨_,rfl,λB=>?_,λB=>?_⟩
     .rw [UW (by simpa using B)]at k;refine h.sta 2 rfl rfl λv h=>⟨_,_,_,_,_,_,_,_,h.rda 2 rfl,k _ h.tl.tl.tl⟩
     .rw [UX (by simpa using B)]at k;refine⟨_,_,_,_,_,_,_,_,h.rda 0 rfl,?_⟩;refine h.sta 2 rfl (by rw[kO];exact (kO Cl.z).symm) λv h=>⟨_,_,_,_,_,_,_,_,h.rda 2 rfl,k _ h.tl.tl.tl⟩
end
structure bG where
 width:Int
 policy:Int
 most:Int
 lag:Int
 rho:Int
 trust:Int
 agents:Int
 cells:Int
 hold:Int
abbrev bG.gd(c:bG):Gd:=⟨c.width,c.policy,c.most⟩
abbrev ol(c:bG):Os:=[aB c.width,aB c.policy,aB c.most,aB c.lag,aB c.rho,aB c.trust,aB c.agents,aB c.cells,aB c.hold]
structure br where
 ck:Ck
 hs:HS Pv
 last:Int
structure aI where
 cfg:bG
 now:Int
 boots:Int
 sunk:Int
 rows:List En
 ms:MS
 cm:CM
 sts:List (Option br)
 kept:List Ot
section
variable {α:Type}
def cV:Nat->List (Option α)->List (Int×Option α)
 | _,[]=>[]
 | i,none::r=>cV (i+1) r
 | i,some b::r=>((i:Int),some b)::cV (i+1) r
theorem xb:∀{l:List (Option α)} {i:Nat} {p:Int×Option α},p∈cV i l->(i:Int)<=p.1/\p.1<i+l.length
 | [],i,p,h=>by simp[cV]at h
 | none::r,i,p,h=>by
  have a:=xb (l:=r) (i:=i+1) h;simp only[Vf];omega
 | some b::r,i,p,h=>by
  simp only[Vf]
  rcases Vm.1 h with rfl|h
  .simp only;omega
  .have a:=xb (l:=r) (i:=i+1) h;omega
theorem AM{l:List (Option α)}{i k:Nat}(h:k<i):((k:Nat):Int)∉aG (cV i l):=λhm=>by
 obtain⟨p,a,b⟩:=Vh.1 hm;have:=xb a;omega
theorem uk:∀{l:List (Option α)} {i k:Nat},aL ((i+k:Nat):Int) (cV i l)=match l[k]? with|some (some b)=>some (some b)|_=>none
 | [],i,k=>by simp[cV,aL]
 | none::r,i,0=>by
  simp only[List.getElem?_cons_zero];exact fp.2 (AM (l:=r) (by omega))
 | some b::r,i,0=>by simp[cV,aL]
 | none::r,i,k+1=>by
  have a:=uk (l:=r) (i:=i+1) (k:=k);rw[show i+1+k=i+(k+1) by omega]at a;simp only[cV,List.getElem?_cons_succ];exact a
 | some b::r,i,k+1=>by
  have a:=uk (l:=r) (i:=i+1) (k:=k);rw[show i+1+k=i+(k+1) by omega]at a;simp only[cV,List.getElem?_cons_succ,aL];rw[nO];exact a
theorem JM{β:Type}{k:Int}{l:List (Int×β)}(h:k∉aG l):bT k l=l:=kG (fp.2 h)
theorem xc{b:α}:∀{l:List (Option α)} {i k:Nat},k<l.length->(cV i (l.set k (some b))).Perm (mset ((i+k:Nat):Int) (some b) (cV i l))
 | none::r,i,0,_=>by
  simp only[WI,cV];unfold mset;rw[JM (AM (by omega))];exact .refl _
 | some c::r,i,0,_=>by
  simp only[WI,cV];unfold mset;have:bT ((i+0:Nat):Int) (((i:Int),some c)::cV (i+1) r)=bT ((i+0:Nat):Int) (cV (i+1) r):=by simp[bT]
  rw[this,JM (AM (by omega))];exact .refl _
 | none::r,i,k+1,h=>by
  have a:=xc (b:=b) (l:=r) (i:=i+1) (k:=k) (by simpa using h);rw[show i+1+k=i+(k+1) by omega]at a;exact a
 | some c::r,i,k+1,h=>by
  have a:=xc (b:=b) (l:=r) (i:=i+1) (k:=k) (by simpa using h);rw[show i+1+k=i+(k+1) by omega]at a;simp only[Yc,cV];refine (a.cons _).trans ?_;unfold mset;have:bT ((i+(k+1):Nat):Int) (((i:Int),some c)::cV (i+1) r)=((i:Int),some c)::bT ((i+(k+1):Nat):Int) (cV (i+1) r):=by
   have d:¬(i:Int)=((i+(k+1):Nat):Int):=by omega
   simp[bT,VD,d];omega
  rw[this];exact .swap _ _ _
end
abbrev ptV(p:Option Nat):Value:=match p with|some b=>PA b 0|none=>.pointer none
theorem qA:l9 Tryz.prog 142 2 169 ptV none:=qf Tryz.underlying142 (by kernel_rfl)
def strA(Q:aE)(b:Nat)(s:br):aE:=exS λp:Nat×Nat=>star [cellsA b [PA p.1 0,PA p.2 0,aD s.last] 173,ckA p.1 s.ck,hldA Q p.2 s.hs]
def strsA(Q:aE):List (Option Nat)->List (Option br)->aE
 | some b::bs,some s::ss=>strA Q b s*strsA Q bs ss
 | _::bs,_::ss=>strsA Q bs ss
 | _,_=>emp
theorem pm{Q:aE}{b:Nat}{s:br}:∀{bl:List (Option Nat)} {sts:List (Option br)} {k:Nat},bl[k]?=some none->sts[k]?=some none->
  strA Q b s*strsA Q bl sts=strsA Q (bl.set k (some b)) (sts.set k (some s))
 | [],_,k,h,_=>by simp at h
 | _::_,[],k,_,h=>by simp at h
 | x::bs,y::ss,0,h1,h2=>by
  simp at h1 h2;subst h1;subst h2;rfl
 | none::bs,y::ss,k+1,h1,h2=>pm (bl:=bs) (sts:=ss) (k:=k) (by simpa using h1) (by simpa using h2)
 | some x::bs,none::ss,k+1,h1,h2=>pm (bl:=bs) (sts:=ss) (k:=k) (by simpa using h1) (by simpa using h2)
 | some x::bs,some y::ss,k+1,h1,h2=>by
  have a:=pm (Q:=Q) (b:=b) (s:=s) (bl:=bs) (sts:=ss) (k:=k) (by simpa using h1) (by simpa using h2);show strA Q b s*(strA Q x y*strsA Q bs ss)=strA Q x y*strsA Q (bs.set k (some b)) (ss.set k (some s));rw[<-a,<-jt,qY (strA Q b s),jt]
theorem AN{Q:aE}:∀{n:Nat},strsA Q (List.replicate n none) (List.replicate n none)=emp
 | 0=>rfl
 | n+1=>AN (n:=n)
section
variable {F L:List aE}{H:aC}{K KP:KE}{Q Q':aE}
theorem gS{b:Nat}{s:br}:aA H (strA Q b s::F)↔∃cb hb,aA H (cellsA b [PA cb 0,PA hb 0,aD s.last] 173::ckA cb s.ck::hldA Q hb s.hs::F):=by
 constructor
 .intro h;obtain⟨⟨cb,hb⟩,h⟩:=cJ.1 h;exact⟨cb,hb,aA.open (A:=[_,_,_]) h⟩
 .rintro⟨cb,hb,h⟩;exact cJ.2 ⟨(cb,hb),aA.shut [_,_,_] h⟩
theorem strA_sub{b:Nat}{s:br}(hs:aM Q Q')(h:aA H (strA Q b s::F)):aA H (strA Q' b s::F):=by
 obtain⟨cb,hb,h⟩:=gS.1 h;have h:=h.o [2,0,1] 3;have h:=Au hs h;exact gS.2 ⟨cb,hb,h.o [1,2,0] 3⟩
theorem um(hs:aM Q Q'):∀{bl:List (Option Nat)} {sts:List (Option br)} {F:List aE},aA H (strsA Q bl sts::F)->aA H (strsA Q' bl sts::F)
 | [],_,F,h=>h
 | none::_,[],F,h=>h
 | some _::_,[],F,h=>h
 | none::bs,y::ss,F,h=>um (bl:=bs) (sts:=ss) hs h
 | some x::bs,none::ss,F,h=>um (bl:=bs) (sts:=ss) hs h
 | some x::bs,some y::ss,F,h=>by
  have h:aA H (strA Q x y::strsA Q bs ss::F):=gp.1 h;have h:=strA_sub hs h;have h:=h.o [1,0] 2;have h:=um (bl:=bs) (sts:=ss) hs h;have h:=h.o [1,0] 2;exact gp.2 h
def strmA(Q:aE)(tm:Nat)(sts:List (Option br)):aE:=exS λbl:List (Option Nat)=>star [mapA aD ptV tm (cV 0 bl),strsA Q bl sts,pur (bl.map Option.isSome=sts.map Option.isSome)]
abbrev lL(Q:aE)(bl:List (Option Nat))(sts:List (Option br))(k:Nat):aE:=strsA Q (bl.set k none) (sts.set k none)
structure Hole(bl:List (Option Nat))(sts:List (Option br))(k b:Nat):Prop where
 lt:k<sts.length
 m:bl.map Option.isSome=sts.map Option.isSome
 at_:bl[k]?=some (some b)
theorem kU{tm:Nat}{sts:List (Option br)}:aA H (strmA Q tm sts::F)↔∃bl,bl.map Option.isSome=sts.map Option.isSome/\aA H (mapA aD ptV tm (cV 0 bl)::strsA Q bl sts::F):=by
 constructor
 .intro h;obtain⟨bl,h⟩:=cJ.1 h;have h:=aA.open (A:=[_,_,_]) h;have a:=aA.consP (h.o [2,0,1] 3);exact⟨bl,a.1,a.2⟩
 .rintro⟨bl,a,h⟩;exact cJ.2 ⟨bl,aA.shut [_,_,_] ((h.pur a).o [1,2,0] 3)⟩
theorem qB{bl:List (Option Nat)}{sts:List (Option br)}(h:bl.map Option.isSome=sts.map Option.isSome)(k:Nat):(bl[k]?).map Option.isSome=(sts[k]?).map Option.isSome:=by
 rw[<-List.getElem?_map,<-List.getElem?_map,h]
theorem qC{tm k:Nat}{sts:List (Option br)}{s:br}(h:aA H (strmA Q tm sts::F))(c:sts[k]?=some (some s)) :
  ∃b bl,Hole bl sts k b/\aA H (mapA aD ptV tm (cV 0 bl)::strA Q b s::lL Q bl sts k::F):=by
 obtain⟨bl,hm,h⟩:=kU.1 h;have a:k<sts.length:=(List.getElem?_eq_some_iff.1 c).1;have i:bl.length=sts.length:=by have:=congrArg List.length hm;simpa using this
 have f:=qB hm k;rw[c,List.getElem?_eq_getElem (show k<bl.length by omega)]at f;simp only[V9,Option.isSome_some,Option.some.injEq]at f;obtain⟨b,hb⟩:=Yl.1 f;have d:bl[k]?=some (some b):=by rw[List.getElem?_eq_getElem (show k<bl.length by omega),hb]
 refine⟨b,bl,⟨a,hm,d⟩,?_⟩;have e:=pm (Q:=Q) (b:=b) (s:=s) (bl:=bl.set k none) (sts:=sts.set k none) (k:=k) (by rw[List.getElem?_set_self (by omega)]) (by rw[List.getElem?_set_self (by omega)]);rw[WF,WF]at e;have e1:bl.set k (some b)=bl:=by rw[<-hb,Ws]
 have e2:sts.set k (some s)=sts:=by
  have:sts[k]=some s:=by rw[List.getElem?_eq_getElem a]at c;exact Option.some.inj c
  rw[<-this,Ws]
 rw[e1,e2]at e;rw[<-e]at h;have h:=h.o [1,0] 2;have h:=gp.1 h;exact h.o [2,0,1] 3
theorem sj{tm k b:Nat}{bl:List (Option Nat)}{sts:List (Option br)}{s:br}(o:Hole bl sts k b)(h:aA H (mapA aD ptV tm (cV 0 bl)::strA Q b s::lL Q bl sts k::F)) :
  aA H (strmA Q tm (sts.set k (some s))::F):=by
 have d:bl.length=sts.length:=by have:=congrArg List.length o.m;simpa using this
 have a:=o.lt;have e:=pm (Q:=Q) (b:=b) (s:=s) (bl:=bl.set k none) (sts:=sts.set k none) (k:=k) (by rw[List.getElem?_set_self (by omega)]) (by rw[List.getElem?_set_self (by omega)]);rw[WF,WF]at e;have hb:bl[k]'(by omega)=some b:=by have:=o.at_;rw[List.getElem?_eq_getElem (by omega)]at this;exact Option.some.inj this
 have e1:bl.set k (some b)=bl:=by rw[<-hb,Ws]
 rw[e1]at e;refine kU.2 ⟨bl,?_,?_⟩
 .rw [o.m,WE];have c:=qB o.m k;rw[o.at_,List.getElem?_eq_getElem a]at c;simp only[V9,Option.isSome_some,Option.some.injEq]at c;have:(sts.map Option.isSome)[k]'(by simpa using a)=true:=by simp[<-c]
  rw[Option.isSome_some,<-this,Ws]
 .rw [<-e];have h:=h.o [1,2,0] 3;have h:=gp.2 h;exact h.o [1,0] 2
theorem qD{tm k b:Nat}{bl:List (Option Nat)}{sts:List (Option br)}(o:Hole bl sts k b)(h:aA H F)(i:Nat)(c:aW i F=mapA aD ptV tm (cV 0 bl)) :
  dj Tryz.prog (Instr.lookup 142 (.map (some tm)) (aD (k:Int)) false) H (PA b 0):=by
 have a:=uk (l:=bl) (i:=0) (k:=k);rw[o.at_,Vw]at a;exact ((h.mp_look (x:=((k:Nat):Int)) qA ko2 i c).1 _ a).2
theorem str_nil{tm:Nat}{a:Int}{sts:List (Option br)}(h:aA H (strmA Q tm sts::F))(b:a<0\/sts[a.toNat]?=some none\/sts[a.toNat]?=none) :
  dj Tryz.prog (Instr.lookup 142 (.map (some tm)) (aD a) false) H (.pointer none):=by
 obtain⟨bl,hm,h⟩:=kU.1 h;have f:aL a (cV 0 bl)=none:=by
  rcases (by omega:a<0\/0<=a) with h0|h0
  .exact fp.2 λhm=>by
    obtain⟨p,j,m⟩:=Vh.1 hm;have:=xb j;omega
  .have d:=uk (l:=bl) (i:=0) (k:=a.toNat);rw[Vw,show ((a.toNat:Nat):Int)=a by omega]at d;rw[d];have c:=qB hm a.toNat
   rcases b with b|b|b
   .omega
   .rw [b]at c
    cases e:bl[a.toNat]? with
    | none=>rfl
    | some x=>
     rw[e]at c
     cases x with
     | none=>rfl
     | some y=>simp at c
   .rw [b]at c
    cases e:bl[a.toNat]? with
    | none=>rfl
    | some x=>rw[e]at c;simp at c
 exact ((h.mp_look (x:=a) qA ko2 0 rfl).2 f).2
end
structure RightQ(c:Cl):Prop where
 n0:0<=c.n
 cer0:0<=c.cer
 pos0:0<=c.pos
 mm:c.mn<=c.mx
 v:∀i,i<65->0<=c.h i
 sum:sumC c.h=c.n
 z:c.n=0->c.sum=0/\c.mn=0/\c.mx=0
 nz:c.n≠0->c.h (bY c.mn).toNat≠0/\c.h (bY c.mx).toNat≠0/\∀i,i<65->c.h i=0\/(bY c.mn<=i/\(i:Int)<=bY c.mx)
theorem un{c:Cl}:fX c=true↔RightQ c:=by
 unfold fX
 constructor
 .intro h;simp only[Vd,V1,Vp,Ve,Vc]at h;obtain⟨⟨⟨⟨⟨⟨j,f⟩,m⟩,k⟩,e⟩,d⟩,a⟩:=h;refine⟨by omega,by omega,by omega,by omega,qt.1 e,d,λb=>?_,λb=>?_⟩
  .rw [UX b]at a;simp only[Vd,Vc]at a;exact⟨a.1.1,a.1.2,a.2⟩
  .rw [UW b]at a;simp only[Vd,V1,Vp,Ve]at a;refine⟨a.1.1,a.1.2,λi hi=>?_⟩
   have:=a.2;unfold inB at this;rw[VL]at this;have:=this i (Wg.2 hi);simpa only[Vr,Vc] using this
 .intro h;simp only[Vd,V1,Vp,Ve,Vc];refine⟨⟨⟨⟨⟨⟨by have:=h.n0;omega,by have:=h.cer0;omega⟩,by have:=h.pos0;omega⟩,by have:=h.mm;omega⟩,qt.2 h.v⟩,h.sum⟩,?_⟩
  by_cases b:c.n=0
  .rw [UX b];have:=h.z b;simp only[Vd,Vc];exact⟨⟨this.1,this.2.1⟩,this.2.2⟩
  .rw [UW b];have:=h.nz b;simp only[Vd,V1,Vp,Ve];refine⟨⟨this.1,this.2.1⟩,?_⟩;unfold inB;rw[VL];intro i hi;simp only[Vr,Vc];exact this.2.2 i (Wg.1 hi)
theorem SW{c:Cl}{b:Bool}(h:(gM c b).2=0):fX (gM c b).1=true:=by
 unfold gM at h ⊢
 split at h
 .simp at h
 .rename_i e;rw[UW e];have a:=un.1 (by simpa using e)
  split at h
  .rename_i hb;rw[UX hb]
   split at h
   .simp at h
   .rename_i d;rw[UW d];exact un.2 ⟨a.n0,by have:=a.cer0;show 0<=c.cer+1;omega,a.pos0,a.mm,a.v,a.sum,a.z,a.nz⟩
  .rename_i hb;rw[UW hb]
   split at h
   .simp at h
   .rename_i d;rw[UW d];exact un.2 ⟨a.n0,a.cer0,by have:=a.pos0;show 0<=c.pos+1;omega,a.mm,a.v,a.sum,a.z,a.nz⟩
theorem SX{a b:Nat}(h:a<=b):bitLen a<=bitLen b:=by
 unfold bitLen
 split
 .omega
 .rename_i c;rw[nO];have d:=Nat.log2_self_le c;have e:=(Nat.le_log2 (show b≠0 by omega)).2 (Vu d h);omega
theorem xd{v w:Int}(h:v<=w):bY v<=bY w:=by
 have e:∀x:Int,bY x=if x<0 then 0 else if x=0 then 1 else 1+((bitLen x.toNat:Nat):Int):=λ_=>rfl
 have hm:=SX (a:=v.toNat) (b:=w.toNat) (by omega);rw[e v,e w]
 by_cases h1:v<0
 .rw [UX h1]
  by_cases h2:w<0
  .rw [UX h2];exact V7 _
  .rw [UW h2]
   by_cases h3:w=0
   .rw [UX h3];decide
   .rw [UW h3];omega
 .rw [UW h1,UW (show ¬w<0 by omega)]
  by_cases h3:w=0
  .rw [UX (show v=0 by omega),UX h3];exact V7 _
  .rw [UW h3]
   by_cases h4:v=0
   .rw [UX h4];omega
   .rw [UW h4];omega
abbrev mL(f:Nat->Int)(n:Nat):Int:=((List.range n).map f).sum
theorem xe(f:Nat->Int)(n:Nat):mL f (n+1)=mL f n+f n:=by
 unfold mL;rw[List.range_succ,Vv,List.sum_append];simp
theorem JN(f:Nat->Int)(j:Nat):∀n,mL (eW f j (f j+1)) n=mL f n+if j<n then 1 else 0
 | 0=>by simp[mL]
 | n+1=>by
  rw[xe,xe,JN f j n];unfold eW
  by_cases h:n=j
  .subst h;simp;omega
  .rw [UW h]
   by_cases h2:j<n
   .rw [UX h2,pO];omega
   .rw [UW h2,nO];omega
theorem JO{f:Nat->Int}:∀{n:Nat},(∀i,i<n->0<=f i)->mL f n<=0->∀i,i<n->f i=0
 | 0,_,_,i,hi=>by omega
 | n+1,h,hs,i,hi=>by
  rw[xe]at hs;have h0:0<=mL f n:=sumR_nn λi hi=>h i (by omega)
  have b:=h n (by omega)
  rcases (by omega:i<n\/i=n) with a|rfl
  .exact JO (λi hi=>h i (by omega)) (by omega) i a
  .omega
where sumR_nn {f:Nat->Int}:∀{n:Nat},(∀i,i<n->0<=f i)->0<=mL f n
 | 0,_=>by simp[mL]
 | n+1,h=>by
  rw[xe];have:=sumR_nn (n:=n) λi hi=>h i (by omega)
  have:=h n (by omega);omega
theorem SY{c:Cl}{v:Int}(wc:WC c)(H:aF v)(h:(jR c v).2=0):fX (jR c v).1=true:=by
 unfold jR at h ⊢
 split at h
 .simp at h
 rename_i u;rw[UW u];have a:=un.1 (by simpa using u)
 split at h
 .simp at h
 rename_i s;rw[UW s]
 split at h
 .simp at h
 rename_i B;rw[UW B]
 split at h
 .simp at h
 rename_i d;rw[UW d];have e1:(jz c.n 1).1=c.n+1:=by
  unfold jz at s ⊢
  split at s
  .rename_i G;rw[UX G]
  .simp at s
 have bv:=oY H;have e3:(jl c.h v).1=eW c.h (bY v).toNat (c.h (bY v).toNat+1):=by
  unfold jl at d ⊢
  split at d
  .simp at d
  .rename_i I;rw[UW I]
   split at d
   .simp at d
   .rename_i j;rw[UW j]
 have k:∀i,i≠(bY v).toNat->eW c.h (bY v).toNat (c.h (bY v).toNat+1) i=c.h i:=λi hi=>by unfold eW;rw[UW hi]
 have hs:eW c.h (bY v).toNat (c.h (bY v).toNat+1) (bY v).toNat=c.h (bY v).toNat+1:=by unfold eW;rw[UX rfl]
 have F:=a.v (bY v).toNat (by omega);have E:=a.n0;refine un.2 ?_;dsimp only;rw[e1,e3];have C:c.n=0->∀i,i<65->c.h i=0:=λh0=>JO (n:=65) a.v (by have:=a.sum;unfold sumC rowH at this;show ((List.range 65).map c.h).sum<=0;omega)
 refine⟨?_,a.cer0,a.pos0,?_,λi hi=>?_,?_,λh0=>?_,λ_=>?_⟩
 .show 0<=c.n+1;omega
 .have:=a.mm;dsimp only
  by_cases h0:c.n=0
  .simp only[UX h0];split <;> omega
  .simp only[UW h0];split <;> split <;> omega
 .dsimp only
  by_cases e:i=(bY v).toNat
  .subst e;rw[hs];omega
  .rw [k i e];exact a.v i hi
 .have j:=JN c.h (bY v).toNat 65;rw[pO]at j;have y:=a.sum;show mL _ 65=c.n+1;rw[j];unfold sumC rowH at y;show ((List.range 65).map c.h).sum+1=_;omega
 .exfalso;have h0:c.n+1=0:=h0;omega
 .dsimp only
  by_cases h0:c.n=0
  .rw [UX h0,UX h0,nO,hs];refine⟨by omega,by omega,λi hi=>?_⟩
   by_cases e:i=(bY v).toNat
   .right;omega
   .left;rw[k i e];exact C h0 i hi
  .rw [UW h0,UW h0];have b:=a.nz h0;have f:∀i,c.h i≠0->i<65->eW c.h (bY v).toNat (c.h (bY v).toNat+1) i≠0:=λi hi J=>by
    by_cases e:i=(bY v).toNat
    .subst e;rw[hs];omega
    .rw [k i e];exact hi
   have D:=oY wc.mn;have A:=oY wc.mx;have m1:∀x,x<=c.mn->bY x<=bY c.mn:=λx t=>xd t
   have m2:∀x,c.mx<=x->bY c.mx<=bY x:=λx t=>xd t
   refine⟨?_,?_,λi hi=>?_⟩
   .split
    .rw [hs];omega
    .exact f _ b.1 (by omega)
   .split
    .rw [hs];omega
    .exact f _ b.2.1 (by omega)
   .by_cases e:i=(bY v).toNat
    .right;subst e
     constructor
     .split
      .omega
      .have:=xd (v:=c.mn) (w:=v) (by omega);omega
     .split
      .omega
      .have:=xd (v:=v) (w:=c.mx) (by omega);omega
    .rw [k i e]
     rcases b.2.2 i hi with m|m
     .left;exact m
     .right
      constructor
      .split
       .have:=m1 v (by omega);omega
       .exact m.1
      .split
       .have:=m2 v (by omega);omega
       .exact m.2
theorem nM{κ α:Type}[DecidableEq κ]{x:κ}{v:α}{m:List (κ×α)}{p:κ×α}(h:p∈mset x v m):p=(x,v)\/p∈m:=by
 unfold mset at h
 rcases Vm.1 h with h|h
 .exact .inl h
 .exact .inr (Wd.1 h).1
structure sk(m:CM):Prop where
 nd:(aG m).Nodup
 wc:∀p∈m,WC p.2
 rt:∀p∈m,fX p.2=true
 wn:∀p∈m,aF p.1.win
theorem sk.mset{m:CM}(h:sk m){k:Ky}{c:Cl}(d:WC c)(b:fX c=true)(e:aF k.win):sk (mset k c m):=
 ⟨oF h.nd,λp a=>by
  rcases nM a with rfl|a
  .exact d
  .exact h.wc p a,λp a=>by
  rcases nM a with rfl|a
  .exact b
  .exact h.rt p a,λp a=>by
  rcases nM a with rfl|a
  .exact e
  .exact h.wn p a⟩
theorem AO{m:CM}{ser:Fa}{b:Bool}:∀{ws:List Int} {p:Ky×Cl},p∈(ib m ser b ws).1->∃w∈ws,p.1=⟨w,ser⟩/\p.2=(gM (fN m ⟨w,ser⟩) b).1/\(gM (fN m ⟨w,ser⟩) b).2=0
 | [],p,h=>by simp[ib]at h
 | w::r,p,h=>by
  unfold ib at h
  split at h
  .simp at h
  .rename_i h0
   rcases Vm.1 h with rfl|h
   .exact⟨w,Vn ..,rfl,rfl,by simpa using h0⟩
   .obtain⟨c,d,a⟩:=AO h;exact⟨c,Vq _ d,a⟩
theorem JP{m:CM}{ser:Fa}{b:Bool}:∀{ws:List Int},(ib m ser b ws).2=0->aG (ib m ser b ws).1=ws.map λw=>(⟨w,ser⟩:Ky)
 | [],_=>rfl
 | w::r,h=>by
  unfold ib at h ⊢
  split at h
  .rename_i h0;exact UY h h0
  .rename_i h0;rw[UW h0];have a:=JP (ws:=r) h;show _::aG (ib m ser b r).1=_;rw[a];rfl
theorem JQ:∀{l:CM} {m:CM},sk m->(∀p∈l,WC p.2/\fX p.2=true/\aF p.1.win)->sk (lH l m)
 | [],m,h,_=>h
 | p::r,m,h,hl=>by
  have a:=hl p (Vn ..);exact JQ (l:=r) (h.mset a.1 a.2.1 a.2.2) λq b=>hl q (Vq _ b)
theorem SZ{κ α:Type}[DecidableEq κ]{x:κ}{v:α}{m:List (κ×α)}(a:(aG m).Nodup):(mset x v m).length=m.length+(if (aL x m).isNone then 1 else 0):=by
 cases h:aL x m with
 | none=>rw[D9 h];rfl
 | some u=>rw[DW a h];rfl
theorem JU:∀{l:CM} {m:CM},(aG m).Nodup->(aG l).Nodup->((lH l m).length:Int)=m.length+((aG l).filter λk=>(aL k m).isNone).length
 | [],m,_,_=>by simp[lH]
 | p::r,m,hn,hl=>by
  have a:p.1∉aG r/\(aG r).Nodup:=Wv.1 hl;show ((lH r (mset p.1 p.2 m)).length:Int)=_;rw[JU (l:=r) (oF hn) a.2,SZ hn];have e:(aG r).filter (λk=>(aL k (mset p.1 p.2 m)).isNone)=(aG r).filter (λk=>(aL k m).isNone):=by
   apply WU;intro k b;rw[oG,UW (λe:k=p.1=>a.1 (e▸b))]
  rw[e];show _=_+(((p.1::aG r).filter λk=>(aL k m).isNone).length:Int)
  rw[VD]
  cases (aL p.1 m).isNone <;> simp <;> omega
theorem wins_wf{first last:Int}(c:aF first)(b:aF last):∀w∈cq first last,aF w:=by
 intro w a;unfold cq at a;obtain⟨i,hi,rfl⟩:=Vh.1 a;have:=Wg.1 hi;unfold aF at *;omega
theorem Ta(first last:Int)(ser:Fa):((cq first last).map λw=>(⟨w,ser⟩:Ky)).Nodup:=by
 unfold cq;rw[VM];refine WR.2 (List.nodup_range.imp λ{a b} c e=>c ?_)
 have:=congrArg Ky.win e;dsimp only[Function.comp]at this;omega
theorem ee.good{most:Int}{m:CM}(h:ee most m):sk m:=⟨h.nd,h.wc,h.rt,h.wn⟩
theorem xf{most:Int}{m:CM}{first last:Int}{ser:Fa}(h:ee most m)(j:aF first)(n:aF last):ee most (jT most m first last ser).1:=by
 unfold jT
 split
 .exact h
 split
 .exact h
 split
 .exact h
 rename_i u i d;have d:(ib m ser (decide (first=last)) (cq first last)).2=0:=by simpa using d
 have c:=JQ (l:=(ib m ser (decide (first=last)) (cq first last)).1) h.good λp s=>by
  obtain⟨w,t,e1,e2,e3⟩:=AO s;rw[e2,e1];exact⟨Is (h.cell _) _,SW e3,wins_wf j n w t⟩
 have f:=JP d;have a:=JU (l:=(ib m ser (decide (first=last)) (cq first last)).1) (m:=m) h.nd (by rw[f];exact Ta first last ser);rw[f]at a;refine⟨h.m1,h.m2,c.nd,c.wc,c.rt,c.wn,?_⟩;dsimp only;rw[a];have b:qv most m first last ser=true:=by simpa using i
 unfold qv at b;rw[UW u]at b
 split at b
 .cases b
 .have b:=Va b;have e:((((cq first last).map λw=>(⟨w,ser⟩:Ky)).filter λk=>(aL k m).isNone).length:Int)=jS m ser (cq first last):=by
   unfold jS;rw[List.filter_map,Vl];rfl
  rw[e];exact b
theorem Tb{most:Int}{m:CM}{k:Ky}{v:Int}(h:ee most m)(d:aF v)(e:aF k.win):ee most (mB m k v).1:=by
 unfold mB
 split
 .exact h
 .rename_i c b
  split
  .exact h
  .rename_i h0;have h0:(jR c v).2=0:=by simpa using h0
   have wc:=h.wc _ (gY b);have a:=h.good.mset (k:=k) (addC_wf wc d) (SY wc d h0) e;refine⟨h.m1,h.m2,a.nd,a.wc,a.rt,a.wn,?_⟩;dsimp only;rw[DW h.nd b];exact h.len
theorem setS_ok{most:Int}{m:CM}{k:Ky}{c:Cl}(h:ee most m)(wc:WC c)(d:aF k.win):ee most (jU most m k c).1:=by
 unfold jU
 split
 .exact h
 split
 .exact h
 split
 .exact h
 rename_i b f i;have a:=h.good.mset (k:=k) wc (by simpa using f) d;refine⟨h.m1,h.m2,a.nd,a.wc,a.rt,a.wn,?_⟩;dsimp only;have:aL k m=none:=by
  cases e:aL k m with
  | none=>rfl
  | some x=>rw[e]at b;simp at b
 rw[D9 this];omega
theorem xg:∀{l:List Ot} {m:CM} {p:Ky×Cl},p∈lI m l->p∈m
 | [],m,p,h=>h
 | o::r,m,p,h=>(Wd.1 (xg (l:=r) h)).1
theorem JV:∀{l:List Ot} {m:CM},(aG m).Nodup->(aG (lI m l)).Nodup/\(lI m l).length<=m.length
 | [],m,h=>⟨h,Vg _⟩
 | o::r,m,h=>by
  have b:(aG (bT o.1 m)).Nodup:=h.sublist (List.filter_sublist.map _);have a:=JV (l:=r) b;have c:(bT o.1 m).length<=m.length:=WV _ _;exact⟨a.1,Vu a.2 c⟩
theorem Tc{most:Int}{m:CM}{a:Int}(h:ee most m):ee most (nH m a):=by
 have c:=JV (l:=iz m a) h.nd;exact⟨h.m1,h.m2,c.1,λp b=>h.wc p (xg b),λp b=>h.rt p (xg b),λp b=>h.wn p (xg b),by have:=c.2;have:=h.len;unfold nH;omega⟩
def cO(ck:Ck)(fl:Fl)(now stamp:Int):Gp×Int:=
 if (ckAt ck stamp).2≠0 then (Gp.z,(ckAt ck stamp).2)
 else if (kK [(ckAt ck stamp).1,⟨fl.t,now⟩]).2≠0 then (Gp.z,13) else ((kK [(ckAt ck stamp).1,⟨fl.t,now⟩]).1,0)
abbrev bE(ms:MS)(a:Int):Fl:=(aL a ms.m).getD Fl.z
structure JR where
 st:br
 ms:MS
 cm:CM
 reason:Int
 win:Int
 gap:Gp
def eE(c:bG)(now a:Int)(st:br)(ms:MS)(cm:CM)(e:Pv):JR:=
 if e.stamp<st.last then ⟨st,ms,cm,6,0,Gp.z⟩ else
 if (cO st.ck (bE ms a) now e.stamp).2≠0\/st.ck.held=true then ⟨{ st with last:=e.stamp },ms,cm,2,0,Gp.z⟩ else
 if (cO st.ck (bE ms a) now e.stamp).1.lo<(ms.raise a (cO st.ck (bE ms a) now e.stamp).1.lo).1.value then
  ⟨{ st with last:=e.stamp },(ms.raise a (cO st.ck (bE ms a) now e.stamp).1.lo).1,cm,1,0,(cO st.ck (bE ms a) now e.stamp).1⟩ else
 if (jT c.cells cm (dN c.gd (cO st.ck (bE ms a) now e.stamp).1).1 (dN c.gd (cO st.ck (bE ms a) now e.stamp).1).2.1 (fY e.name e.labs)).2≠0 then
  ⟨{ st with last:=e.stamp },(ms.raise a (cO st.ck (bE ms a) now e.stamp).1.lo).1,
   (jT c.cells cm (dN c.gd (cO st.ck (bE ms a) now e.stamp).1).1 (dN c.gd (cO st.ck (bE ms a) now e.stamp).1).2.1 (fY e.name e.labs)).1,4,0,(cO st.ck (bE ms a) now e.stamp).1⟩ else
 if (mz c.gd (cO st.ck (bE ms a) now e.stamp).1).2≠0 then
  ⟨{ st with last:=e.stamp },(ms.raise a (cO st.ck (bE ms a) now e.stamp).1.lo).1,
   (jT c.cells cm (dN c.gd (cO st.ck (bE ms a) now e.stamp).1).1 (dN c.gd (cO st.ck (bE ms a) now e.stamp).1).2.1 (fY e.name e.labs)).1,3,0,(cO st.ck (bE ms a) now e.stamp).1⟩ else
 ⟨{ st with last:=e.stamp },(ms.raise a (cO st.ck (bE ms a) now e.stamp).1.lo).1,
  (mB (jT c.cells cm (dN c.gd (cO st.ck (bE ms a) now e.stamp).1).1 (dN c.gd (cO st.ck (bE ms a) now e.stamp).1).2.1 (fY e.name e.labs)).1 ⟨(mz c.gd (cO st.ck (bE ms a) now e.stamp).1).1,fY e.name e.labs⟩ e.value).1,
  if (mB (jT c.cells cm (dN c.gd (cO st.ck (bE ms a) now e.stamp).1).1 (dN c.gd (cO st.ck (bE ms a) now e.stamp).1).2.1 (fY e.name e.labs)).1 ⟨(mz c.gd (cO st.ck (bE ms a) now e.stamp).1).1,fY e.name e.labs⟩ e.value).2≠0 then 4 else 0,
  if (mB (jT c.cells cm (dN c.gd (cO st.ck (bE ms a) now e.stamp).1).1 (dN c.gd (cO st.ck (bE ms a) now e.stamp).1).2.1 (fY e.name e.labs)).1 ⟨(mz c.gd (cO st.ck (bE ms a) now e.stamp).1).1,fY e.name e.labs⟩ e.value).2≠0 then 0 else (mz c.gd (cO st.ck (bE ms a) now e.stamp).1).1,
  (cO st.ck (bE ms a) now e.stamp).1⟩
section
variable {F L:List aE}{H:aC}{K KP:KE}{Q Q':aE}
theorem JW{sb c mb mm cb hb:Nat}{cs:Os}{ms:MS}{ck:Ck}{now a stamp last:Int}(j:ck.smps.length<=8)(u:aT cs 9=some (aD now))(i:aT cs 16=some (PA mb 0))
  (h:aA H (cellsA sb cs 145::Ma.markC mb mm ms::Ma.mapF mm ms.m::cellsA c [PA cb 0,PA hb 0,aD last] 173::ckA cb ck::F))
  (k:∀f,aA f (cellsA sb cs 145::Ma.markC mb mm ms::Ma.mapF mm ms.m::cellsA c [PA cb 0,PA hb 0,aD last] 173::ckA cb ck::F)->
   K (.tuple #[jO (cO ck (bE ms a) now stamp).1,aD (cO ck (bE ms a) now stamp).2]) f) :
  CF 156 #[PA sb 0,aD a,PA c 0,aD stamp] H K:=by
 refine cN 156 298920156 [[(11,sI),(14,sA)]] ?_;refine h.al λb _ h=>⟨_,h.r 4,?_⟩
 have h:=h.o [5,0,1,2,3,4] 6;refine QJ j h λA h=>⟨_,_,_,rfl,?_⟩
 unfold cO at k;generalize ckAt ck stamp=C at *;refine h.al λb1 _ h=>?_
 refine h.st 0 rfl rfl ?_;intro y h;refine⟨λd=>?_,λd=>?_⟩
 .rw [UX (by simpa using d)]at k;refine h.st 2 rfl rfl ?_;intro n h;refine⟨_,_,h.q 2,?_⟩;exact k _ (h.o [3,4,5,6,1] 7)
 rw[UW (by simpa using d)]at k;refine⟨_,(h.r 3).trans i,?_⟩;have h:=h.o [4,5,0,1,2,3,6] 7;refine Ma.Of_spec (a:=a) h λn h=>⟨_,_,_,_,_,rfl,?_⟩
 refine h.al λb2 _ h=>?_
 refine h.st 0 rfl rfl ?_;intro B h;intro x w;generalize hM:kK [C.1,⟨(bE ms a).t,now⟩]=M at *;have e:∀pb f,aA f (cellsA pb [aD M.1.lo,aD M.1.hi] 89::cellsA b [aD 0,aD 0] 89::cellsA sb cs 145::Ma.markC mb mm ms::Ma.mapF mm ms.m::cellsA c [PA cb 0,PA hb 0,aD last] 173::ckA cb ck::F)->x M.2 pb 0 f:=by
  intro pb f h;refine w _ _ _ _ ?_;refine⟨λd=>?_,λd=>?_⟩
  .rw [UX (by simpa using d)]at k;refine h.st 1 rfl rfl ?_;intro n h;exact⟨_,_,h.q 1,k _ h.tl.tl⟩
  .rw [UW (by simpa using d)]at k;refine⟨_,_,h.q 0,?_⟩;refine h.st 1 rfl rfl ?_;intro n h;exact⟨_,_,h.q 1,k _ h.tl.tl⟩
 refine⟨_,_,h.q 3,_,h.r 0,_,(h.r 6).trans u,?_,?_⟩
 .refine h.al λb3 _ h=>⟨?_,?_⟩
  .refine tU (gs:=[C.1,⟨(bE ms a).t,now⟩]) h (λH h=>h.ce_rd 0 rfl) (by simp) λv h=>⟨_,_,_,rfl,?_⟩
   rw[hM];refine h.al λb4 _ h=>?_
   refine h.st 0 rfl rfl ?_;intro s h;exact e _ _ (h.o [0,7,8,3,4,9,6] 10)
  .refine h.al λb5 _ h=>?_
   refine tU (gs:=[C.1,⟨(bE ms a).t,now⟩]) h (λH h=>h.ce_rd 1 rfl) (by simp) λv h=>⟨_,_,_,rfl,?_⟩
   rw[hM];refine h.st 0 rfl rfl ?_;intro s h;exact e _ _ (h.o [0,7,8,3,4,9,6] 10)
 .refine h.al λb6 _ h=>⟨(h.r 7).trans u,h.r 1,h.q 4,?_⟩
  refine h.al λb7 _ h=>?_
  refine tU (gs:=[C.1,⟨(bE ms a).t,now⟩]) h (λH h=>h.ce_rd 0 rfl) (by simp) λv h=>⟨_,_,_,rfl,?_⟩
  rw[hM];refine h.st 1 rfl rfl ?_;intro s h;exact e _ _ (h.o [1,7,8,3,4,9,6] 10)
theorem JX(g:Gd)(t:Int):aF (fM g t):=by
 unfold fM
 split
 .split <;> exact i64in _
 .unfold aF;decide
theorem wf_meets(g:Gd)(x:Gp):aF (dN g x).1/\aF (dN g x).2.1:=by
 unfold dN
 split
 .split
  .exact⟨JX _ _,JX _ _⟩
  .unfold aF;decide
 .unfold aF;decide
theorem Td{c:bG}{sb n mm cb:Nat}{p_mb p_hb p_hm B:Nat}{cs:Os}{ms:MS}{cm:CM}{st:br}{now a:Int}{e:Ev}(I:st.ck.smps.length<=8)(ok:ee c.cells cm)(U:aF e.value)
  (S:aT cs 9=some (aD now)) (v:(cs.drop 12).take 3=[aD c.width,aD c.policy,aD c.most]) (j:aT cs 16=some (PA p_mb 0)) (D:aT cs 17=some (PA p_hb 0)) (Q:∀H,aA H F->aP H e.la (flat de e.labs))
  (h:aA H (cellsA sb cs 145::Ma.markC p_mb mm ms::Ma.mapF mm ms.m::shC p_hb p_hm c.cells::cz p_hm cm::cellsA n [PA cb 0,PA B 0,aD st.last] 173::ckA cb st.ck::F))
  (k:∀O,aA O (cellsA sb cs 145::Ma.markC p_mb mm (eE c now a st ms cm e.p).ms::Ma.mapF mm (eE c now a st ms cm e.p).ms.m::shC p_hb p_hm c.cells::cz p_hm (eE c now a st ms cm e.p).cm::cellsA n [PA cb 0,PA B 0,aD (eE c now a st ms cm e.p).st.last] 173::ckA cb st.ck::F)->
   K (.tuple #[.agg #[aD (eE c now a st ms cm e.p).reason,aD (eE c now a st ms cm e.p).win],jO (eE c now a st ms cm e.p).gap]) O) :
  CF 155 #[PA sb 0,aD a,PA n 0,aggV e] H K:=by
 refine cM 155 8182367178792412 ?_;unfold eE at k;have i:e.p.stamp=e.stamp:=rfl;have w:e.p.value=e.value:=rfl;have u:e.p.name=e.name:=rfl;have s:e.p.labs=e.labs:=rfl;rw[i,w,u,s]at k;refine h.al λb _ h=>?_
 refine h.al λb1 _ h=>?_
 refine h.al λb2 _ h=>?_
 refine⟨_,h.r 2,_,h.r 8,λd=>?_,λd=>?_⟩
 .have d:=Va d;simp only[UX d]at k;refine h.st 1 rfl rfl ?_;intro R h;refine h.st 0 rfl rfl ?_;intro V h;exact⟨_,_,h.q 1,_,_,h.q 0,k _ h.tl.tl.tl⟩
 have d:=Vb d;simp only[UW d]at k;refine⟨_,h.r 2,?_⟩;refine h.st 8 rfl rfl ?_;intro R h;refine⟨_,h.r 2,?_⟩;have h:=h.o [3,4,5,8,9,0,1,2,6,7] 10;refine JW (a:=a) (stamp:=e.stamp) I S j h λV h=>⟨_,_,_,rfl,?_⟩
 generalize cO st.ck (bE ms a) now e.stamp=T at *;refine h.al λb3 _ h=>?_
 refine h.st 0 rfl rfl ?_;intro H4 h;refine⟨_,h.rd 4 rfl 0,_,tW (h.o [5] 6),λd=>?_,λd=>?_⟩
 .have d:T.2≠0\/st.ck.held=true:=by
   simp only[Vr,V1,Ve]at d
   rcases d with d|d
   .exact .inr d
   .exact .inl d
  simp only[UX d]at k;refine h.st 7 rfl rfl ?_;intro H5 h;refine h.st 6 rfl rfl ?_;intro L h;exact⟨_,_,h.q 7,_,_,h.q 6,k _ (h.o [1,2,3,9,10,4,5] 11)⟩
 have d:¬(T.2≠0\/st.ck.held=true):=by
  simp only[Vp,VI,Vc]at d;rintro (E|E)
  .exact E d.2
  .rw [d.1]at E;cases E
 simp only[UW d]at k;refine⟨_,(h.r 1).trans j,_,h.r 0,?_⟩;have h:=h.o [2,3,0,1,4,5,6,7,8,9,10] 11;refine Ma.Raise_spec (a:=a) (t:=T.1.lo) h λH5 h=>⟨_,rfl,?_⟩
 generalize (ms.raise a T.1.lo).1=M at *;refine⟨_,h.r 2,_,(h.r 3).trans j,_,Ma.Value_spec h 0 rfl,λd=>?_,λd=>?_⟩
 .have d:=Va d;simp only[UX d]at k;refine⟨_,_,h.q 2,?_⟩;refine h.st 7 rfl rfl ?_;intro L h;refine⟨h.q 2,?_⟩;refine h.st 6 rfl rfl ?_;intro Y h;exact⟨_,_,h.q 7,_,_,h.q 6,k _ (h.o [3,0,1,9,10,4,5] 11)⟩
 have d:=Vb d;simp only[UW d]at k;refine⟨_,_,_,_,h.q 8,?_⟩;refine R6 h (λH h=>Q H (h.o [] 11)) λL h=>⟨_,rfl,?_⟩
 generalize fY e.name e.labs=ser at *;refine⟨_,_,_,h.rds 3 rfl v,_,_,h.q 2,?_⟩;refine Ij (g:=c.gd) (x:=T.1) h λY h=>⟨_,_,_,rfl,?_⟩
 have f:=wf_meets c.gd T.1;generalize dN c.gd T.1=W at *;refine⟨_,(h.r 3).trans D,?_⟩;have h:=h.o [9,10,0,1,2,3,4,5,6,7,8] 11;refine Rh ok f.1 f.2 h λH8 h=>⟨_,rfl,?_⟩
 have G:ee c.cells (jT c.cells cm W.1 W.2.1 ser).1:=xf ok f.1 f.2;generalize jT c.cells cm W.1 W.2.1 ser=N at *;refine⟨λd=>?_,λd=>?_⟩
 .have d:N.2≠0:=by simpa using d
  simp only[UX d]at k;refine⟨_,_,h.q 4,?_⟩;refine h.st 9 rfl rfl ?_;intro Z h;refine⟨h.q 4,?_⟩;refine h.st 8 rfl rfl ?_;intro A h;exact⟨_,_,h.q 9,_,_,h.q 8,k _ (h.o [5,2,3,0,1,6,7] 11)⟩
 have d:¬N.2≠0:=by simpa using d
 simp only[UW d]at k;refine⟨_,_,_,h.rds 5 rfl v,_,_,h.q 4,?_⟩;refine Qy (g:=c.gd) (x:=T.1) h λZ h=>⟨_,_,rfl,?_⟩
 generalize mz c.gd T.1=P at *;refine⟨λd=>?_,λd=>?_⟩
 .have d:P.2≠0:=by simpa using d
  simp only[UX d]at k;refine⟨_,_,h.q 4,?_⟩;refine h.st 9 rfl rfl ?_;intro A h;refine⟨h.q 4,?_⟩;refine h.st 8 rfl rfl ?_;intro y h;exact⟨_,_,h.q 9,_,_,h.q 8,k _ (h.o [5,2,3,0,1,6,7] 11)⟩
 have d:¬P.2≠0:=by simpa using d
 simp only[UW d]at k;refine⟨_,(h.r 5).trans D,_,h.r 10,?_⟩;refine Re G (key:=⟨P.1,ser⟩) U h λA h=>⟨_,rfl,?_⟩
 generalize mB N.1 ⟨P.1,ser⟩ e.value=C at *;refine⟨λd=>?_,λd=>?_⟩
 .have d:C.2≠0:=by simpa using d
  simp only[UX d]at k;refine⟨_,_,h.q 4,?_⟩;refine h.st 9 rfl rfl ?_;intro y h;refine⟨h.q 4,?_⟩;refine h.st 8 rfl rfl ?_;intro J h;exact⟨_,_,h.q 9,_,_,h.q 8,k _ (h.o [5,2,3,0,1,6,7] 11)⟩
 .have d:¬C.2≠0:=by simpa using d
  simp only[UW d]at k;refine⟨_,_,h.q 4,?_⟩;refine h.st 9 rfl rfl ?_;intro y h;refine⟨h.q 4,?_⟩;refine h.st 8 rfl rfl ?_;intro J h;exact⟨_,_,h.q 9,_,_,h.q 8,k _ (h.o [5,2,3,0,1,6,7] 11)⟩
end
structure cu where
 kind:Int:=0
 agent:Int:=0
 epoch:Int:=0
 boot:Int:=0
 next:Int:=0
 number:Int:=0
 ida:Int:=0
 ide:Int:=0
 seq:Int:=0
 reason:Int:=0
 win:Int:=0
 gap:Gp:=Gp.z
 out:Ot:=(⟨0,⟨#[]⟩⟩,Cl.z)
abbrev dQ(e:cu):Os:=[aB e.kind,aB e.agent,aB e.epoch,aB e.boot,aB e.next,aB e.number,aB e.ida,aB e.ide,aB e.seq,aB e.reason,aB e.win,aB e.gap.lo,aB e.gap.hi,
 aB e.out.1.win,.string e.out.1.ser,aB e.out.2.n,aB (cx e.out.2.sum),.int .u64 (wlo e.out.2.sum),aB e.out.2.mn,aB e.out.2.mx,aB e.out.2.cer,aB e.out.2.pos]++bW .i64 e.out.2.h 65 0
theorem JY(e:cu):(dQ e).length=87:=rfl
theorem uo(e:cu):cR (dQ e)=true:=rfl
structure SAd where
 rb:Nat
 rm:Nat
 mb:Nat
 mm:Nat
 hb:Nat
 hm:Nat
 tm:Nat
 ka:KQ
 kc:Nat
abbrev dq(s:aI)(p:SAd):Os:=[aB s.cfg.width,aB s.cfg.policy,aB s.cfg.most,aB s.cfg.lag,aB s.cfg.rho,aB s.cfg.trust,aB s.cfg.agents,aB s.cfg.cells,aB s.cfg.hold,aB s.now,aB s.boots,aB s.sunk,
 aB s.cfg.width,aB s.cfg.policy,aB s.cfg.most,PA p.rb 0,PA p.mb 0,PA p.hb 0,.map (some p.tm),.slice p.ka s.kept.length p.kc]
structure j9(c:bG):Prop where
 gd:c.gd.ok
 lag:1<=c.lag/\c.lag<=1099511627776
 rate:gu c.rho/\0<=c.trust/\c.trust<=100
 ag:1<=c.agents/\c.agents<=64
 cl:1<=c.cells/\c.cells<=1024
 hd:1<=c.hold/\c.hold<=256
structure lM(c:bG)(s:br):Prop where
 ck:CkOk s.ck
 rho:s.ck.rho=c.rho
 least:s.ck.least=c.trust
 hs:s.hs.Ok
 most:s.hs.most=c.hold
 next:s.hs.next<=1099511627776
 rows:∀p∈s.hs.rows,p.1<1099511627776/\gP p.2=true/\aF p.2.value
 last:-1<=s.last/\s.last<=4611686018427387903
structure cQ(s:aI):Prop where
 cfg:j9 s.cfg
 now:isT s.now
 boots:0<=s.boots/\s.boots<=1099511627776
 sunk:0<=s.sunk
 rows:fO s.rows
 ms:MOk s.ms
 lag:s.ms.lag=s.cfg.lag
 sh:ee s.cfg.cells s.cm
 len:s.sts.length=64
 sts:∀st,some st∈s.sts->lM s.cfg st
 reg:∀k:Nat,(∃st:br,s.sts[k]?=some (some st))↔∃e:En,s.rows[k]?=some e/\0<e.epoch
 kept:∀o∈s.kept,WC o.2
theorem sl39:SlT Tryz.prog 54 305 87 704:=iM (by kernel_rfl)
abbrev stLZZ(Q:aE)(sb:Nat)(s:aI)(p:SAd):List aE:=[cellsA sb (dq s p) 145,Ro.rollC p.rb p.rm s.cfg.agents,Ro.mapE p.rm s.rows,Ma.markC p.mb p.mm s.ms,Ma.mapF p.mm s.ms.m,shC p.hb p.hm s.cfg.cells,cz p.hm s.cm,strmA Q p.tm s.sts,slA 164 74 p.ka s.kept.length p.kc (flat cI s.kept)]
def stA(Q:aE)(sb:Nat)(s:aI):aE:=exS λp:SAd=>star (stLZZ Q sb s p)
section
variable {F L:List aE}{H:aC}{K KP:KE}{Q Q':aE}
theorem cW{sb:Nat}{s:aI}:aA H (stA Q sb s::F)↔∃p:SAd,aA H (cellsA sb (dq s p) 145::Ro.rollC p.rb p.rm s.cfg.agents::Ro.mapE p.rm s.rows::Ma.markC p.mb p.mm s.ms::Ma.mapF p.mm s.ms.m::shC p.hb p.hm s.cfg.cells::cz p.hm s.cm::strmA Q p.tm s.sts::slA 164 74 p.ka s.kept.length p.kc (flat cI s.kept)::F):=by
 constructor
 .intro h;obtain⟨p,h⟩:=cJ.1 h;exact⟨p,aA.open h⟩
 .rintro⟨p,h⟩;exact cJ.2 ⟨p,aA.shut (stLZZ Q sb s p) h⟩
theorem JZ{tm:Nat}{sts:List (Option br)}(hs:aM Q Q')(h:aA H (strmA Q tm sts::F)):aA H (strmA Q' tm sts::F):=by
 obtain⟨bl,a,h⟩:=kU.1 h;have h:=h.o [1,0] 2;have h:=um hs h;exact kU.2 ⟨bl,a,h.o [1,0] 2⟩
theorem sq{sb:Nat}{s:aI}(hs:aM Q Q')(h:aA H (stA Q sb s::F)):aA H (stA Q' sb s::F):=by
 obtain⟨p,h⟩:=cW.1 h;have h:=h.o [7,0,1,2,3,4,5,6,8] 9;have h:=JZ hs h;exact cW.2 ⟨p,h.o [1,2,3,4,5,6,7,0,8] 9⟩
theorem Te{a:KQ}{c:Nat}{evs:List Ev}(h:aA H (Q::F))(O:∀H,aA H (Q::F)->aP H a (flat cw evs))(R:∀e∈evs,ik Q e)(P:evs.length<=1000000)(G:∀e∈evs,e.labs.length<=1000000)
  (k:∀Q' J I b C,aM Q Q'->b.map Ev.p=evs.map Ev.p->(∀e∈b,ik Q' e)->aA C (Q'::slA 99 4 J b.length I (flat cw b)::F)->K (.slice J b.length I) C) :
  CF 154 #[.slice a evs.length c] H K:=by
 refine Ov ?_;refine Sf h O P λa1 c1 H1 h=>⟨_,_,_,rfl,?_⟩
 refine⟨λi C=>∃(j:Nat) (Q':aE) (b:List Ev),i=j/\j<=evs.length/\aM Q Q'/\b.map Ev.p=evs.map Ev.p/\(∀q (u:q<b.length),q<j->ik Q' b[q])/\(∀q (u:q<b.length) (w:q<evs.length),j<=q->b[q]=evs[q])/\
  aA C (Q'::slA 99 4 a1 evs.length c1 (flat cw b)::F),λi _=>evs.length-i.toNat,
  ⟨0,Q,evs,rfl,by omega,aM.refl Q,rfl,λq _ h=>by omega,λ_ _ _ _=>rfl,h.o [1,0] 2⟩,?_⟩
 rintro i H2 ⟨j,Q',b,rfl,hj,f,n,t,m,h⟩;have B:b.length=evs.length:=by have:=congrArg List.length n;simpa using this
 refine⟨λD=>?_,λD=>?_⟩
 .have s:j<evs.length:=by have:=Va D;omega
  have d:j<b.length:=by omega
  have M:=h.sl_rd 1 rfl;have y:=m j d s (Vg _);refine⟨by omega,_,_,M.some fH (by omega) d,_,_,_,(by
   have:=M.el fH d 3 (v:=.slice b[j].la b[j].labs.length b[j].lc) rfl;rw[show aS a1+((j:Nat):Int).toNat*4+2+1=aS a1+j*4+3 by simp];exact this),?_⟩
  rw[y];refine Sj h (λH h=>((R _ (Vk s)).sub f).at h 0 rfl) (G _ (Vk s)) λW a2 c2 H3 A E h=>⟨_,_,_,rfl,by omega,?_⟩
  obtain⟨T,U,L⟩:=h.sl_set 1 rfl (j*4+3) [.slice a2 evs[j].labs.length c2] (by rw[eZ fH];simp;omega) (by simp);refine⟨_,_,T,by rw[show aS a1+((j:Nat):Int).toNat*4+2+1=aS a1+(j*4+3) by simp[VQ]];exact U,?_⟩;intro H4 N;rw[aJ (x:=(j:Int)+1)];have e:=y7 fH (⟨evs[j].stamp,evs[j].value,evs[j].name,evs[j].labs,a2,c2⟩:Ev) [.slice a2 evs[j].labs.length c2] 3 (xs:=b) (k:=j) d (by simp) (by rw[y];rfl);rw[e]at L;refine⟨⟨j+1,W,b.set j ⟨evs[j].stamp,evs[j].value,evs[j].name,evs[j].labs,a2,c2⟩,by omega,s,f.trans A,?_,λq u Z=>?_,λq u w V=>?_,?_⟩,by dsimp only;omega⟩
  .rw [WE,n];apply Wa
   .simp
   .intro q h5 h6;rw[List.getElem_set]
    split
    .rename_i e5;subst e5;simp[Ev.p]
    .rfl
  .rw [List.getElem_set]
   split
   .exact E
   .exact (t q (by simpa using u) (by omega)).sub A
  .rw [List.getElem_set,nO];exact m q (by simpa using u) w (by omega)
  .rw [N,show aS a1+((j:Nat):Int).toNat*4+2+1=aS a1+(j*4+3) by simp[VQ]];exact L
 .have S:evs.length<=j:=by have:=Vb D;omega
  rw[<-B]at h ⊢;exact k Q' a1 c1 b _ f n (λe Y=>by
   obtain⟨q,u,rfl⟩:=VU Y;exact t q u (by omega)) h
end
def Pv.z:Pv:=⟨0,0,⟨#[]⟩,[]⟩
structure JS where
 st:br
 ms:MS
 cm:CM
def uq(c:bG)(now a ep seq:Int)(x:JS)(e:Pv):JS×cu:=
 (⟨(eE c now a x.st x.ms x.cm e).st,(eE c now a x.st x.ms x.cm e).ms,(eE c now a x.st x.ms x.cm e).cm⟩,
  { kind:=3,ida:=a,ide:=ep,seq:=seq,reason:=(eE c now a x.st x.ms x.cm e).reason,win:=(eE c now a x.st x.ms x.cm e).win,gap:=(eE c now a x.st x.ms x.cm e).gap })
def dg(c:bG)(now a ep first:Int)(evs:List Pv)(x:JS):Nat->JS×List cu
 | 0=>(x,[])
 | n+1=>((uq c now a ep (first+n) (dg c now a ep first evs x n).1 (evs.getD n Pv.z)).1,(dg c now a ep first evs x n).2++[(uq c now a ep (first+n) (dg c now a ep first evs x n).1 (evs.getD n Pv.z)).2])
def kA(s:aI)(r:Rp)(st:br):JS×List cu:=dg s.cfg r.nw r.ag r.ep st.hs.next (st.hs.offer r.nx r.evs).2.1 ⟨{ st with hs:=(st.hs.offer r.nx r.evs).1 },s.ms,s.cm⟩ (st.hs.offer r.nx r.evs).2.1.length
def gz(s:aI)(r:Rp):aI×List cu:=match s.sts[r.ag.toNat]? with
 | some (some st)=>({ s with now:=r.nw,ms:=(kA s r st).1.ms,cm:=(kA s r st).1.cm,sts:=s.sts.set r.ag.toNat (some (kA s r st).1.st) },
   (kA s r st).2++[{ kind:=2,agent:=r.ag,epoch:=r.ep,next:=(st.hs.offer r.nx r.evs).1.next }])
 | _=>(s,[])
theorem xh(c:bG)(now a:Int)(st:br)(ms:MS)(cm:CM)(e:Pv):(eE c now a st ms cm e).st.ck=st.ck/\(eE c now a st ms cm e).st.hs=st.hs/\
  ((eE c now a st ms cm e).st.last=st.last\/(eE c now a st ms cm e).st.last=e.stamp):=by
 unfold eE
 split
 .exact⟨rfl,rfl,.inl rfl⟩
 split
 .exact⟨rfl,rfl,.inr rfl⟩
 split
 .exact⟨rfl,rfl,.inr rfl⟩
 split
 .exact⟨rfl,rfl,.inr rfl⟩
 split <;> exact⟨rfl,rfl,.inr rfl⟩
theorem AQ(g:Gd)(t:Int):aF (fM g t):=by
 unfold fM
 split
 .split <;> exact i64in _
 .unfold aF;decide
theorem Ka(g:Gd)(x:Gp):aF (dN g x).1/\aF (dN g x).2.1:=by
 unfold dN
 split
 .split
  .exact⟨AQ _ _,AQ _ _⟩
  .unfold aF;decide
 .unfold aF;decide
theorem wf_pick(g:Gd)(x:Gp):aF (mz g x).1:=by
 have h:=Ka g x;have z:aF 0:=by unfold aF;decide
 unfold mz
 split
 .exact z
 split
 .exact z
 split
 .exact h.1
 split
 .exact h.2
 split
 .exact AQ _ _
 split
 .exact z
 .exact h.1
theorem Tf{c:bG}{now a:Int}{st:br}{ms:MS}{cm:CM}{e:Pv}(h:ee c.cells cm)(f:aF e.value):ee c.cells (eE c now a st ms cm e).cm:=by
 have b:=Ka c.gd (cO st.ck (bE ms a) now e.stamp).1;have d:=wf_pick c.gd (cO st.ck (bE ms a) now e.stamp).1;unfold eE
 split
 .exact h
 split
 .exact h
 split
 .exact h
 split
 .exact xf h b.1 b.2
 split
 .exact xf h b.1 b.2
 .exact Tb (xf h b.1 b.2) f d
theorem AR{c:bG}{now a ep first:Int}{evs:List Pv}{x:JS}(h:ee c.cells x.cm)(f:∀e∈evs,aF e.value):∀n,n<=evs.length->
  ee c.cells (dg c now a ep first evs x n).1.cm/\(dg c now a ep first evs x n).1.st.ck=x.st.ck/\(dg c now a ep first evs x n).1.st.hs=x.st.hs/\(dg c now a ep first evs x n).2.length=n
 | 0,_=>⟨h,rfl,rfl,rfl⟩
 | n+1,hn=>by
  have b:=AR (now:=now) (a:=a) (ep:=ep) (first:=first) h f n (by omega);have d:=xh c now a (dg c now a ep first evs x n).1.st (dg c now a ep first evs x n).1.ms (dg c now a ep first evs x n).1.cm (evs.getD n Pv.z);refine⟨Tf b.1 ?_,d.1.trans b.2.1,d.2.1.trans b.2.2.1,?_⟩
  .rw [og _ (by omega)];exact f _ (Vk _)
  .show (_++[_]).length=_;rw[UZ,b.2.2.2];rfl
structure om(Q:aE)(F:List aE)(r:Rp)(a:KQ)(evs:List Ev):Prop where
 eq:r.evs=evs.map Ev.p
 rd:∀H,aA H F->aP H a (flat cw evs)
 labs:∀e∈evs,ik Q e
 len:evs.length<=1000000
 vals:∀e∈r.evs,aF e.value
section
variable {F L:List aE}{H:aC}{K KP:KE}{Q Q':aE}
theorem evOk_len{e:Pv}(h:gP e=true):e.labs.length<=8:=by
 unfold gP at h;rw[Vd]at h
 conv=>whnf
 exact (mC h.2).len
theorem Tg{sb:Nat}{s:aI}{r:Rp}{a:KQ}{c:Nat}{evs:List Ev}{st:br}(ok:cQ s)(r8:0<=r.ag)(D:s.sts[r.ag.toNat]?=some (some st))(I:om Q F r a evs)(h6:∀e∈r.evs,gP e=true)
  (l0:evs.length<=64) (h:aA H (Q::stA Q sb s::F))
  (k:∀Q' a' c' Z,aM Q Q'->aA Z (Q'::slA 305 87 a' (gz s r).2.length c' (flat dQ (gz s r).2)::stA Q' sb (gz s r).1::F)->K (.slice a' (gz s r).2.length c') Z) :
  CF 70 #[PA sb 0,.agg ⟨df r a c⟩] H K:=by
 have R:((r.ag.toNat:Nat):Int)=r.ag:=by omega
 have f:=ok.sts st (VA D);have h4:r.evs.length=evs.length:=by rw[I.eq,Vl]
 unfold gz at k;rw[D]at k;dsimp only at k;refine O8 ?_;refine h.al λb _ h=>⟨_,h.r 0,?_⟩
 have h:=h.o [2,1,0] 3;obtain⟨p,h⟩:=cW.1 h;refine h.st 0 rfl rfl ?_;intro H1 h;have h:=h.o [7,0,1,2,3,4,5,6,8,9,10] 11;obtain⟨W,bl,B,h⟩:=qC h D;have h:=h.o [1,0,2,3,4,5,6,7,8,9,10,11,12] 13;obtain⟨cb,hb,h⟩:=gS.1 h;have A:=qD B h 3 rfl;rw[R]at A;refine⟨_,h.r 5,_,h.r 14,_,A,cY ⟨_,h.r 0,_,uf (h.o [2] 3),cY ⟨_,h.r 0,_,h.r 14,_,_,_,h.r 14,?_⟩⟩⟩;have h:=h.o [13,0,1,2,3,4,5,6,7,8,9,10,11,12,14] 15;rw[h4];refine Te h (λH h=>I.rd H (h.o [] 15)) I.labs (by omega) (λe he=>?_) λE a1 c1 v H2 C Y j2 h=>⟨_,_,_,rfl,h.r 15,h.r 2,?_⟩
 .have:=evOk_len (h6 e.p (by rw[I.eq];exact Vh.2 ⟨e,he,rfl⟩));show e.p.labs.length<=1000000;omega
 have j3:v.length=evs.length:=by have:=congrArg List.length Y;simpa using this
 have h:=h.o [4,0,1,2,3,5,6,7,8,9,10,11,12,13,14,15] 16;have h:=Au C h;have T:v.map Ev.p=r.evs:=by rw[Y,I.eq]
 refine Jp (items:=v) h f.hs (by have:=f.next;omega) (λH h=>h.sl_rd 1 rfl) j2 (by omega) λa2 c2 ready H3 t N h=>⟨_,_,_,_,rfl,?_⟩
 rw[T]at t h;have S:(st.hs.offer r.nx r.evs).2.1.length=ready.length:=by rw[<-t,Vl]
 unfold kA at k;rw[S]at k;generalize hO:st.hs.offer r.nx r.evs=O at *;have hv:∀e∈O.2.1,aF e.value:=by
  intro e he;rw[<-hO]at he
  rcases (ue (s:=st.hs) (first:=r.nx) (items:=r.evs)).1 e he with h|⟨q,h,rfl⟩
  .exact I.vals e h
  .exact (f.rows q h).2.2
 have l6:ready.length<=1000000:=by
  have h1:=Jo (s:=st.hs) (first:=r.nx) (items:=r.evs);rw[hO,S]at h1;have h2:=f.hs.rows.length;have h3:=f.hs.most2;omega
 have U:=λn hn=>AR (c:=s.cfg) (now:=r.nw) (a:=r.ag) (ep:=r.ep) (first:=st.hs.next) (evs:=O.2.1) (x:=⟨{ st with hs:=O.1 },s.ms,s.cm⟩) ok.sh hv n hn
 generalize hG:dg s.cfg r.nw r.ag r.ep st.hs.next O.2.1 ⟨{ st with hs:=O.1 },s.ms,s.cm⟩=G at *;refine⟨λla d lc i Z=>∃j:Nat,i=j/\j<=ready.length/\d=j/\
  aA Z (cellsA sb (dq { s with now:=r.nw } p) 145::Ma.markC p.mb p.mm (G j).1.ms::Ma.mapF p.mm (G j).1.ms.m::shC p.hb p.hm s.cfg.cells::cz p.hm (G j).1.cm::cellsA W [PA cb 0,PA hb 0,aD (G j).1.st.last] 173::ckA cb st.ck::
   slA 305 87 la j lc (flat dQ (G j).2)::slA 99 4 a2 ready.length c2 (flat cw ready)::hldA E hb O.1::E::mapA aD ptV p.tm (cV 0 bl)::lL Q bl s.sts r.ag.toNat::Ro.rollC p.rb p.rm s.cfg.agents::Ro.mapE p.rm s.rows::slA 164 74 p.ka s.kept.length p.kc (flat cI s.kept)::cellsA b (df r a c) 61::F),
  λ_ _ _ i _=>ready.length-i.toNat,⟨0,rfl,by omega,rfl,?_⟩,?_⟩
 .have h0:G 0=(⟨{ st with hs:=O.1 },s.ms,s.cm⟩,[]):=by rw[<-hG];rfl
  rw[h0];exact (h.sl_nil 305 87).o [9,12,13,14,15,5,6,0,1,2,3,7,8,10,11,16,17] 18
 rintro la d lc i H4 ⟨j,rfl,hj,rfl,h⟩;obtain⟨h7,y,j1,P⟩:=U d (by omega);refine⟨λhc=>?_,λhc=>?_⟩
 .have w:d<ready.length:=by have:=Va hc;omega
  have M:=h.sl_rd 8 rfl;refine⟨by omega,_,_,M.some fH (by omega) w,_,_,_,_,_,_,M.els fH w,?_⟩;refine h.al λb2 _ h=>?_
  refine h.st 0 rfl rfl ?_;intro H5 h;refine⟨_,h.r 17,_,_,_,_,_,_,h.q 0,?_⟩;have h:=h.o [1,2,3,4,5,6,7,0,8,9,10,11,12,13,14,15,16,17] 18;have h5:O.2.1.getD d Pv.z=ready[d].p:=by
   rw[og _ (by omega)];simp only[<-t,VV]
  have h8:aF ready[d].value:=by
   have:=hv ready[d].p (by rw[<-t];exact Vh.2 ⟨_,Vk w,rfl⟩);exact this
  have L:(G d).1.st.ck.smps.length<=8:=by rw[y];exact f.ck.len
  rw[<-show (G d).1.st.ck=st.ck from y]at h;refine Td (c:=s.cfg) (now:=r.nw) (a:=r.ag) (st:=(G d).1.st) (e:=ready[d]) (mm:=p.mm) (p_mb:=p.mb) (p_hb:=p.hb) (p_hm:=p.hm) L h7 h8 rfl rfl rfl rfl (λH h=>(N _ (Vk w)).at h 4 rfl) h λH6 h=>⟨_,_,_,_,rfl,?_⟩
  rw[show (G d).1.st.ck=st.ck from y]at h;have V:G (d+1)=((uq s.cfg r.nw r.ag r.ep (st.hs.next+d) (G d).1 ready[d].p).1,(G d).2++[(uq s.cfg r.nw r.ag r.ep (st.hs.next+d) (G d).1 ready[d].p).2]):=by
   rw[<-h5,<-hG];rfl
  unfold uq at V;generalize eE s.cfg r.nw r.ag (G d).1.st (G d).1.ms (G d).1.cm ready[d].p=J at *;refine h.al λb3 _ h=>?_
  refine h.al λb4 _ h=>?_
  refine h.st 1 rfl rfl ?_;intro H7 h;refine h.st 0 rfl rfl ?_;intro H8 h;refine⟨_,h.r 19,_,h.r 19,?_⟩;refine h.al λb5 _ h=>?_
  refine h.st 0 rfl rfl ?_;intro H9 h;refine⟨_,_,_,h.q 0,_,_,h.q 2,_,_,h.q 1,?_⟩;refine h.al λb6 _ h=>?_
  have r0:=f.next;have l5:=f.hs.next0;have hw:i64.wrap (st.hs.next+(d:Int))=st.hs.next+d:=aJ;rw[hw]at h;refine h.append (m:=1) (ws:=dQ { kind:=3,ida:=r.ag,ide:=r.ep,seq:=st.hs.next+d,reason:=J.reason,win:=J.win,gap:=J.gap }) sl39 12 rfl (h.ce_rd 0 rfl) rfl (uo _) (by omega) (by omega) λa5 c5 u h=>⟨_,_,_,rfl,?_⟩
  rw[aJ (x:=(d:Int)+1)];refine⟨⟨d+1,by omega,w,rfl,?_⟩,by dsimp only;omega⟩;rw[V];have e:flat dQ ((G d).2++[{ kind:=3,ida:=r.ag,ide:=r.ep,seq:=st.hs.next+d,reason:=J.reason,win:=J.win,gap:=J.gap }])=flat dQ (G d).2++dQ { kind:=3,ida:=r.ag,ide:=r.ep,seq:=st.hs.next+d,reason:=J.reason,win:=J.win,gap:=J.gap }:=by
   rw[dT];simp[flat]
  dsimp only;rw[e];exact h.o [4,5,6,7,8,9,10,12,13,14,15,16,17,18,19,20,21] 22
 .have h9:d=ready.length:=by have:=Vb hc;omega
  subst h9;refine⟨_,h.r 16,_,h.r 16,cY ⟨_,h.r 5,_,uf (h.o [9] 10),?_⟩⟩;refine h.al λb7 _ h=>?_
  refine h.append (m:=1) (ws:=dQ { kind:=2,agent:=r.ag,epoch:=r.ep,next:=O.1.next }) sl39 8 rfl (h.ce_rd 0 rfl) rfl (uo _) (by omega) (by omega) λa5 c5 u h=>⟨_,_,_,rfl,?_⟩
  have e:flat dQ ((G ready.length).2++[{ kind:=2,agent:=r.ag,epoch:=r.ep,next:=O.1.next }])=flat dQ (G ready.length).2++dQ { kind:=2,agent:=r.ag,epoch:=r.ep,next:=O.1.next }:=by
   rw[dT];simp[flat]
  have hk:=k E a5 c5 u C;rw[UZ,P,e]at hk;refine hk ?_;have h:=h.o [13,6,7,10,12,1,14,15,2,3,4,5,16,11,8] 18;have h:aA u (lL E bl s.sts r.ag.toNat::_):=um C h;have h:=h.o [1,2,3,4,0,5,6,7,8,9,10,11,12,13,14] 15;have h:aA u (strA E W (G ready.length).1.st::_):=gS.2 ⟨cb,hb,by rw[y,j1];exact h⟩;have h:=h.o [1,0,2,3,4,5,6,7,8,9,10,11,12] 13;have h:=sj B h;have h:=h.o [1,2,3,4,5,6,7,0,8,9,10] 11;have h:aA u (stA E sb { s with now:=r.nw,ms:=(G ready.length).1.ms,cm:=(G ready.length).1.cm,sts:=s.sts.set r.ag.toNat (some (G ready.length).1.st) }::_):=cW.2 ⟨p,h⟩;exact h.o [1,2,0] 3
end
def Ot.z:Ot:=(⟨0,⟨#[]⟩⟩,Cl.z)
def dR(first:Int)(outs:List Ot):Nat->List cu
 | 0=>[]
 | n+1=>dR first outs n++[{ kind:=4,number:=first+n,out:=outs.getD n Ot.z }]
theorem nN(first:Int)(a:List Ot):∀n,(dR first a n).length=n
 | 0=>rfl
 | n+1=>by
  show (dR first a n++[_]).length=_;rw[UZ,nN first a n];rfl
abbrev aI.next(s:aI):Int:=s.sunk+(s.kept.length:Int)
def dr(s:aI)(now:Int):List Ot:=iz s.cm (fM s.cfg.gd (s.ms.tick now).1.value)
def kB(s:aI)(now:Int):aI×List cu:=
 ({ s with now:=now,ms:=(s.ms.tick now).1,cm:=nH s.cm (fM s.cfg.gd (s.ms.tick now).1.value),kept:=s.kept++dr s now },dR s.next (dr s now) (dr s now).length)
def lN(s:aI)(r:Rp):aI:=match s.sts[r.ag.toNat]? with
 | some (some st)=>if r.nx≠st.hs.next\/r.st<st.last\/st.ck.held=true then { s with now:=r.nw } else
   if (cO st.ck (bE s.ms r.ag) r.nw r.st).2≠0 then { s with now:=r.nw } else
   { s with now:=r.nw,ms:=(s.ms.raise r.ag (cO st.ck (bE s.ms r.ag) r.nw r.st).1.lo).1,sts:=s.sts.set r.ag.toNat (some { st with last:=r.st }) }
 | _=>s
section
variable {F L:List aE}{H:aC}{K KP:KE}{Q Q':aE}
theorem Kb{sb:Nat}{s:aI}{p:SAd}(h:aA H F)(i:Nat)(a:aW i F=cellsA sb (dq s p) 145)(h0:0<=s.sunk)(hs:s.sunk<=4611686018427387903)(b:s.kept.length<=1000000000000) :
  bU Tryz.prog 140 #[PA sb 0] H (aD s.next):=by
 refine cM 140 28 ⟨_,h.rd i a _,_,_,_,h.rd i a _,?_,rfl⟩;rw[aJ];rfl
theorem Tick_spec{sb:Nat}{s:aI}{now:Int}(ok:cQ s)(hs:s.sunk<=4611686018427387903)(I:s.kept.length<=100000000000)(h:aA H (stA Q sb s::F))
  (k:∀y w f,aA f (slA 305 87 y (kB s now).2.length w (flat dQ (kB s now).2)::stA Q sb (kB s now).1::F)->K (.slice y (kB s now).2.length w) f) :
  CF 72 #[PA sb 0,aD now] H K:=by
 obtain⟨p,h⟩:=cW.1 h;refine O6 ?_;refine h.st 0 rfl rfl ?_;intro V h;refine⟨_,h.r 0,?_⟩;have h:=h.o [3,4,0,1,2,5,6,7,8] 9;refine Ma.Tick_spec ok.ms h λP h=>⟨_,rfl,_,h.r 2,_,_,_,h.q 2,_,h.r 2,_,Ma.Value_spec h 0 rfl,?_⟩
 unfold kB dr at k;generalize hM:(s.ms.tick now).1=M at *;refine wu (g:=s.cfg.gd) h λU h=>⟨_,rfl,h.r 2,?_⟩
 have J:=ok.sh.len;have D:=ok.sh.m2;generalize fM s.cfg.gd M.value=W at *;have h:=h.o [5,6,0,1,2,3,4,7,8] 9;refine R8 (by omega) h λE G Y h=>⟨_,_,_,rfl,?_⟩
 have L:(iz s.cm W).length<=1024:=by
  have S:(iz s.cm W).length<=(bA s.cm).length:=by unfold iz;exact (List.takeWhile_sublist _).length_le
  have T:(bA s.cm).length=s.cm.length:=by unfold bA;rw[Vl,ua];simp[aG]
  omega
 generalize hO:iz s.cm W=O at *;generalize nH s.cm W=C at *;refine⟨λla a lc i f=>∃(j:Nat) (ka:KQ) (kc:Nat),i=j/\j<=O.length/\a=j/\
  aA f (slA 305 87 la j lc (flat dQ (dR s.next O j))::slA 164 74 E O.length G (flat cI O)::cellsA sb (dq { s with now:=now,kept:=s.kept++O.take j } { p with ka:=ka,kc:=kc }) 145::Ro.rollC p.rb p.rm s.cfg.agents::Ro.mapE p.rm s.rows::Ma.markC p.mb p.mm M::Ma.mapF p.mm M.m::shC p.hb p.hm s.cfg.cells::cz p.hm C::strmA Q p.tm s.sts::
   slA 164 74 ka (s.kept++O.take j).length kc (flat cI (s.kept++O.take j))::F),
  λ_ _ _ i _=>O.length-i.toNat,⟨0,p.ka,p.kc,rfl,by omega,rfl,?_⟩,?_⟩
 .rw [W4,V4];exact (h.sl_nil 305 87).o [0,1,6,7,8,4,5,2,3,9,10] 11
 rintro la a lc i B ⟨j,ka,kc,rfl,R,rfl,h⟩;have c:(O.take a).length=a:=by rw[Vx];omega
 refine⟨λn=>?_,λn=>?_⟩
 .have b:a<O.length:=by have:=Va n;omega
  have d:=h.sl_rd 1 rfl;have e:=d.els iT b;refine⟨by omega,_,_,d.some iT (by omega) b,_,_,_,_,_,_,_,_,_,_,e,?_⟩;refine h.al λb1 _ h=>?_
  refine h.sta 0 rfl rfl λN h=>?_
  have t:=ok.sunk;refine⟨_,Kb (s:=({ s with now:=now,kept:=s.kept++O.take a }:aI)) (p:={ p with ka:=ka,kc:=kc }) h 3 rfl t hs (by show (s.kept++O.take a).length<=_;rw[UZ,c];omega),?_⟩;have u:({ s with now:=now,kept:=s.kept++O.take a }:aI).next=s.next+a:=by
   show s.sunk+((s.kept++O.take a).length:Int)=s.sunk+(s.kept.length:Int)+a;rw[UZ,c];omega
  rw[u];refine⟨_,_,_,_,_,_,_,_,_,_,h.rda 0 rfl,?_⟩;refine h.al λb2 _ h=>?_
  refine h.append (m:=1) (ws:=dQ { kind:=4,number:=s.next+a,out:=O[a] }) sl39 2 rfl (h.ce_rd 0 rfl) rfl (uo _) (by omega) (by omega) λa5 c5 H7 h=>⟨_,_,_,rfl,?_⟩
  refine⟨_,_,_,h.r 4,_,_,_,_,_,_,_,_,_,_,h.rda 1 rfl,?_⟩;refine h.al λb3 _ h=>⟨h.r 5,?_⟩
  refine h.append (m:=1) (ws:=cI O[a]) sl86 13 rfl (h.ce_rd 0 rfl) rfl (rS _) (by rw[UZ,c];omega) (by rw[UZ,c];omega) λa6 c6 Z h=>⟨_,_,_,rfl,?_⟩
  refine h.st 5 rfl rfl ?_;intro H9 h;rw[aJ (x:=(a:Int)+1)];refine⟨⟨a+1,a6,c6,by omega,b,rfl,?_⟩,by dsimp only;omega⟩;have e1:dR s.next O (a+1)=dR s.next O a++[{ kind:=4,number:=s.next+a,out:=O[a] }]:=by
   show dR s.next O a++[({ kind:=4,number:=s.next+a,out:=O.getD a Ot.z }:cu)]=_;rw[og _ b]
  have e2:flat dQ (dR s.next O (a+1))=flat dQ (dR s.next O a)++dQ { kind:=4,number:=s.next+a,out:=O[a] }:=by
   rw[e1,dT];simp[flat]
  have e3:s.kept++O.take (a+1)=(s.kept++O.take a)++[O[a]]:=by rw[VE b,Vj]
  have e4:flat cI (s.kept++O.take (a+1))=flat cI (s.kept++O.take a)++cI O[a]:=by
   rw[e3,dT];simp[flat]
  have e5:(s.kept++O.take (a+1)).length=(s.kept++O.take a).length+1:=by rw[e3,UZ];rfl
  have e6:dq ({ s with now:=now,kept:=s.kept++O.take (a+1) }:aI) { p with ka:=a6,kc:=c6 }=cv (dq ({ s with now:=now,kept:=s.kept++O.take a }:aI) { p with ka:=ka,kc:=kc }) 19 [.slice a6 ((s.kept++O.take a).length+1) c6]:=by
   simp only[dq,e5];rfl
  rw[e2,e4,e5,e6];exact h.o [3,4,5,6,7,8,9,10,11,12,13] 14
 .have v:a=O.length:=by have:=Vb n;omega
  subst v;rw[V8]at h;have A:=k la lc B;rw[nN]at A;refine A ?_;have h:=h.o [2,3,4,5,6,7,8,9,10,0] 11;have h:aA B (stA Q sb { s with now:=now,ms:=M,cm:=C,kept:=s.kept++O }::_):=cW.2 ⟨{ p with ka:=ka,kc:=kc },h⟩;exact h.o [1,0] 2
theorem Th{sb:Nat}{s:aI}{r:Rp}{a:KQ}{c:Nat}{st:br}(ok:cQ s)(C:0<=r.ag)(f:s.sts[r.ag.toNat]?=some (some st))(h:aA H (stA Q sb s::F))
  (k:∀w,aA w (stA Q sb (lN s r)::F)->K (.tuple #[]) w) :
  CF 71 #[PA sb 0,.agg ⟨df r a c⟩] H K:=by
 have x:((r.ag.toNat:Nat):Int)=r.ag:=by omega
 have y:=ok.sts st (VA f);unfold lN at k;rw[f]at k;dsimp only at k;refine O7 ?_;refine h.al λb _ h=>⟨_,h.r 0,?_⟩
 have h:=h.o [1,0] 2;obtain⟨p,h⟩:=cW.1 h;refine h.st 0 rfl rfl ?_;intro G h;have h:=h.o [7,0,1,2,3,4,5,6,8,9] 10;obtain⟨A,bl,u,h⟩:=qC h f;have h:=h.o [1,0,2,3,4,5,6,7,8,9,10,11] 12;obtain⟨cb,hb,h⟩:=gS.1 h;have n:=qD u h 3 rfl;rw[x]at n;have e:∀(ms:MS) (i:br) w,aA w (cellsA A [PA cb 0,PA hb 0,aD i.last] 173::ckA cb i.ck::hldA Q hb i.hs::mapA aD ptV p.tm (cV 0 bl)::lL Q bl s.sts r.ag.toNat::cellsA sb (dq { s with now:=r.nw } p) 145::Ro.rollC p.rb p.rm s.cfg.agents::Ro.mapE p.rm s.rows::Ma.markC p.mb p.mm ms::Ma.mapF p.mm ms.m::shC p.hb p.hm s.cfg.cells::cz p.hm s.cm::slA 164 74 p.ka s.kept.length p.kc (flat cI s.kept)::F)->
   aA w (stA Q sb { s with now:=r.nw,ms:=ms,sts:=s.sts.set r.ag.toNat (some i) }::F):=by
  intro ms i w h;have h:=gS.2 ⟨cb,hb,h⟩;have h:=h.o [1,0,2,3,4,5,6,7,8,9,10] 11;have h:=sj u h;exact cW.2 ⟨p,h.o [1,2,3,4,5,6,7,0,8] 9⟩
 have j:s.sts.set r.ag.toNat (some st)=s.sts:=by
  have B:r.ag.toNat<s.sts.length:=(List.getElem?_eq_some_iff.1 f).1;have:s.sts[r.ag.toNat]=some st:=by rw[List.getElem?_eq_getElem B]at f;exact Option.some.inj f
  rw[<-this,Ws]
 refine⟨_,h.r 5,_,h.r 13,_,n,_,h.r 13,cY ⟨_,h.r 0,_,uf (h.o [2] 3),_,λ_=>h.r 13,λ_=>trivial,_,λ_=>h.r 0,λ_=>trivial,_,λ_=>h.rd 0 rfl 0,_,λ_=>tW (h.o [1] 2),λd=>?_,λd=>?_⟩⟩
 .have d:r.nx≠st.hs.next\/r.st<st.last\/st.ck.held=true:=by
   simp only[Vr,V1,Ve,Vc]at d
   rcases d with (d|d)|d
   .exact .inl d
   .exact .inr (.inl d)
   .exact .inr (.inr d)
  rw[UX d]at k;have h:=e s.ms st _ (h.o [0,1,2,3,4,5,6,7,8,9,10,11,12] 14);rw[j]at h;exact k _ h
 have d:¬(r.nx≠st.hs.next\/r.st<st.last\/st.ck.held=true):=by
  simp only[Vp,VI,Ve,Vc]at d;rintro (v|v|v)
  .exact v d.1.1
  .exact d.1.2 v
  .rw [d.2]at v;cases v
 rw[UW d]at k;refine⟨_,h.r 13,_,h.r 13,?_⟩;have h:=h.o [5,8,9,0,1,2,3,4,6,7,10,11,12,13] 14;refine JW (a:=r.ag) (stamp:=r.st) (now:=r.nw) y.ck.len rfl rfl h λE h=>⟨_,_,_,rfl,?_⟩
 generalize cO st.ck (bE s.ms r.ag) r.nw r.st=T at *;refine h.al λb1 _ h=>?_
 refine h.st 0 rfl rfl ?_;intro I h;refine⟨λd=>?_,λd=>?_⟩
 .rw [UX (by simpa using d)]at k;have h:=e s.ms st _ (h.o [4,5,6,7,8,1,9,10,2,3,11,12,13] 15);rw[j]at h;exact k _ h
 .rw [UW (by simpa using d)]at k;refine⟨_,h.r 14,cY ?_⟩;refine h.st 4 rfl rfl ?_;intro J h;refine⟨_,h.r 1,_,h.r 14,_,h.r 0,?_⟩;have h:=h.o [2,3,0,1,4,5,6,7,8,9,10,11,12,13,14] 15;refine Ma.Raise_spec (a:=r.ag) (t:=T.1.lo) h λD h=>⟨_,rfl,?_⟩
  exact k _ (e _ { st with last:=r.st } _ (h.o [4,5,6,7,8,3,9,10,0,1,11,12,13] 15))
end
def isE(s:aI)(a ep:Int):Bool:=decide (0<(bg s.rows a).epoch)&&decide ((bg s.rows a).epoch=ep)
def dM(s:aI)(a:Int):Option br:=if a<0 then none else (s.sts[a.toNat]?).join
def sr(s:aI)(r:Rp)(now:Int):Int:=
 if 0<r.ep/\isE s r.ag r.ep=false then 22 else
 if now<s.now then 11 else
 if r.kind=4 then (match dM s r.ag with
  | some st=>if st.ck.smps.length=0/\st.ck.held=false then 19 else 0
  | none=>0) else 0
def fA(s:aI)(r:Rp):Int:=
 if r.kind=1 then (if 1099511627776<=s.boots then 17 else 0) else
 if r.kind=7 then (if s.next<r.nx then 11 else 0) else
 sr s r (if r.kind=3 then r.sm.came else r.nw)
structure RLim(r:Rp):Prop where
 kind:1<=r.kind/\r.kind<=7
 ag:0<=r.ag/\r.ag<=63
 ep:(r.kind=3\/r.kind=4\/r.kind=5->1<=r.ep)/\0<=r.ep/\r.ep<=1099511627776
 bt:(r.kind=2->1<=r.bt)/\0<=r.bt/\r.bt<=1099511627776
 nx:0<=r.nx/\r.nx<=1099511627776
 st:0<=r.st/\r.st<=4611686018427387903
 nw:isT r.nw
 sm:r.sm.ok
 evs:r.kind=4->gQ r.nx r.evs=true
 none:r.kind≠4->r.evs=[]
theorem iC{r:Rp}(h:r.right=true):RLim r:=by
 unfold Rp.right at h;rw[Vd,Vd,Vd]at h;obtain⟨⟨⟨j,s⟩,c⟩,i⟩:=h;unfold Rp.lim at i;simp only[inM,Vd,Vc]at j i;obtain⟨⟨⟨⟨⟨⟨n,b⟩,d⟩,k⟩,m⟩,f⟩,e⟩:=i;refine⟨j,n,⟨λa=>?_,?_,b.2⟩,⟨λa=>?_,?_,d.2⟩,k,m,f,e,λa=>?_,λa=>?_⟩
 .rw [UX a]at b;exact b.1
 .have:=b.1;split at this <;> omega
 .rw [UX a]at d;exact d.1
 .have:=d.1;split at this <;> omega
 .rw [UX a]at c;exact c
 .rw [UW a]at c;exact Wk.1 (Va c)
theorem rowE_at{rows:List En}{a:Int}(h:0<(bg rows a).epoch):0<=a/\∃e,rows[a.toNat]?=some e/\0<e.epoch:=by
 unfold bg at h
 split at h
 .simp [En.z]at h
 .refine⟨by omega,?_⟩
  cases e:rows[a.toNat]? with
  | none=>rw[e]at h;simp[En.z]at h
  | some x=>rw[e]at h;exact⟨x,rfl,h⟩
theorem cQ.str{s:aI}(ok:cQ s){a:Int}(h:0<(bg s.rows a).epoch):0<=a/\∃st,s.sts[a.toNat]?=some (some st):=by
 obtain⟨h0,e,c,b⟩:=rowE_at h;exact⟨h0,(ok.reg a.toNat).2 ⟨e,c,b⟩⟩
theorem xi{s:aI}{a:Int}{st:br}(h0:0<=a)(h:s.sts[a.toNat]?=some (some st)):dM s a=some st:=by
 unfold dM;rw[nO,h];rfl
section
variable {F L:List aE}{H:aC}{K KP:KE}{Q Q':aE}
theorem Ti{sb:Nat}{s:aI}{r:Rp}{a:KQ}{c:Nat}(ok:cQ s)(hs:s.sunk<=4611686018427387903)(Y:s.kept.length<=100000000000)(W:r.right=true)(h:aA H (stA Q sb s::F))
  (k:∀f,aA f (stA Q sb s::F)->K (aD (fA s r)) f) :
  CF 65 #[PA sb 0,.agg ⟨df r a c⟩] H K:=by
 refine cN 65 0x1121513dc13dc17492283c9d2171b9c [[],[(44,sB)],[(5,sI)]] ?_;refine h.al λb H0 h=>⟨_,h.r 0,?_⟩
 have h:=h.o [1,0] 2;obtain⟨p,h⟩:=cW.1 h;have fin:∀f,aA f (cellsA sb (dq s p) 145::Ro.rollC p.rb p.rm s.cfg.agents::Ro.mapE p.rm s.rows::Ma.markC p.mb p.mm s.ms::Ma.mapF p.mm s.ms.m::shC p.hb p.hm s.cfg.cells::cz p.hm s.cm::strmA Q p.tm s.sts::slA 164 74 p.ka s.kept.length p.kc (flat cI s.kept)::cellsA b (df r a c) 61::F)->aA f (stA Q sb s::F):=λf h=>by
  have h:=cW.2 ⟨p,h⟩;exact h.o [0] 2
 unfold fA at k;refine⟨_,h.r 9,λI=>?_,λI=>⟨λw=>?_,λw=>?_⟩⟩
 .rw [UX (Va I)]at k;refine⟨_,h.r 0,λhb=>?_,λhb=>?_⟩
  .rw [UX (Va hb)]at k;exact k _ (fin _ h)
  .rw [UW (Vb hb)]at k;exact k _ (fin _ h)
 .rw [UW (Vb I),UX (Va w)]at k;refine⟨_,h.r 9,_,Kb h 0 rfl ok.sunk hs (by omega),λhb=>?_,λhb=>?_⟩
  .rw [UX (Va hb)]at k;exact k _ (fin _ h)
  .rw [UW (Vb hb)]at k;exact k _ (fin _ h)
 rw[UW (Vb I),UW (Vb w)]at k;have Z:=iC W;intro Jn hJ;have u:∀now,(∀f,aA f (stA Q sb s::F)->K (aD (sr s r now)) f)->Jn now H0:=by
  intro now k;refine hJ _ _ ?_;intro N O;unfold sr at k;have E:∀(t:Bool) f,t=decide (0<r.ep/\isE s r.ag r.ep=false)->aA f (cellsA sb (dq s p) 145::Ro.rollC p.rb p.rm s.cfg.agents::Ro.mapE p.rm s.rows::Ma.markC p.mb p.mm s.ms::Ma.mapF p.mm s.ms.m::shC p.hb p.hm s.cfg.cells::cz p.hm s.cm::strmA Q p.tm s.sts::slA 164 74 p.ka s.kept.length p.kc (flat cI s.kept)::cellsA b (df r a c) 61::F)->N t f:=by
   rintro t f rfl h;refine O _ _ ?_;refine⟨λA=>?_,λA=>?_⟩
   .rw [UX (Va A)]at k;exact k _ (fin _ h)
   have A:=Vb A;rw[UW A]at k;refine⟨_,h.r 0,λM=>?_,λM=>?_⟩
   .rw [UX (Va M)]at k;exact k _ (fin _ h)
   rw[UW (Vb M)]at k;refine⟨_,h.r 9,?_⟩;intro T C;refine⟨λB=>?_,λB=>?_⟩
   .have B:=Va B;rw[UX B]at k;have S:=Z.ep.1 (.inr (.inl B));have v:isE s r.ag r.ep=true:=by
     cases e:isE s r.ag r.ep
     .exact UY ⟨by omega,e⟩ A
     .rfl
    unfold isE at v;rw[Vd]at v;obtain⟨J,st,i⟩:=ok.str (Va v.1);rw[xi J i]at k;dsimp only at k;have G:=ok.sts st (VA i);have D:((r.ag.toNat:Nat):Int)=r.ag:=by omega
    have h:=h.o [7,0,1,2,3,4,5,6,8,9] 10;obtain⟨V,bl,n,h⟩:=qC h i;have h:=h.o [1,0,2,3,4,5,6,7,8,9,10,11] 12;obtain⟨cb,hb,h⟩:=gS.1 h;have j:=qD n h 3 rfl;rw[D]at j;have y:s.sts.set r.ag.toNat (some st)=s.sts:=by
     have P:r.ag.toNat<s.sts.length:=(List.getElem?_eq_some_iff.1 i).1;have:s.sts[r.ag.toNat]=some st:=by rw[List.getElem?_eq_getElem P]at i;exact Option.some.inj i
     rw[<-this,Ws]
    conv=>whnf
    refine⟨_,h.r 5,_,h.r 13,_,j,⟨_,h.rd 0 rfl 0,?_⟩⟩;have h:=h.o [1,0,2,3,4,5,6,7,8,9,10,11,12,13] 14;have U:=G.ck.len;refine zT h (by omega) λsa sc R h=>⟨_,_,_,rfl,λ_=>trivial,_,λ_=>h.rd 2 rfl 0,_,λ_=>tW (h.o [1] 2),?_⟩
    have back:aA R (cellsA sb (dq s p) 145::Ro.rollC p.rb p.rm s.cfg.agents::Ro.mapE p.rm s.rows::Ma.markC p.mb p.mm s.ms::Ma.mapF p.mm s.ms.m::shC p.hb p.hm s.cfg.cells::cz p.hm s.cm::strmA Q p.tm s.sts::slA 164 74 p.ka s.kept.length p.kc (flat cI s.kept)::cellsA b (df r a c) 61::F):=by
     have h:=h.o [2,1,3,4,5,6,7,8,9,10,11,12,13,14] 15;have h:=gS.2 ⟨cb,hb,h⟩;have h:=h.o [1,0,2,3,4,5,6,7,8,9,10,11] 12;have h:=sj n h;rw[y]at h;exact h.o [1,2,3,4,5,6,7,0,8,9] 10
    refine⟨λd=>?_,λd=>?_⟩
    .have d:st.ck.smps.length=0/\st.ck.held=false:=by
      simp only[Vd,Vc,V1]at d;exact⟨by omega,d.2⟩
     rw[UX d]at k;exact k _ (fin _ back)
    .have d:¬(st.ck.smps.length=0/\st.ck.held=false):=by
      rintro⟨h1,h2⟩;rw[h1,h2]at d;simp at d
     rw[UW d]at k;refine C _ ?_;exact k _ (fin _ back)
   .rw [UW (Vb B)]at k;refine C _ ?_;exact k _ (fin _ h)
  refine⟨_,h.r 9,λ_=>trivial,_,λ_=>h.r 0,_,λ_=>h.r 9,_,λ_=>h.r 9,λx=>?_,λx=>?_⟩
  .have x:=Va x;have h:=h.o [1,2,0,3,4,5,6,7,8,9] 10;refine Ro.Is_spec ok.rows (agent:=r.ag) (epoch:=r.ep) h λR h=>⟨_,rfl,?_⟩
   refine E _ _ ?_ (h.o [2,0,1,3,4,5,6,7,8,9] 10);show (!isE s r.ag r.ep)=_;rw[VH,Vc]
   constructor
   .intro d;exact⟨x,by simpa using d⟩
   .rintro⟨_,d⟩;rw[d];rfl
  .have x:¬0<r.ep:=λd=>x (Vs d)
   refine E _ _ ?_ h
   symm
   exact VK λd=>x d.1
 refine⟨λL=>?_,λL=>?_⟩
 .rw [UX (Va L)]at k;exact⟨_,h.r 9,u _ k⟩
 .rw [UW (Vb L)]at k;exact u _ k
end
def lP(c:bG):br:=⟨⟨c.rho,c.trust,false,0,[]⟩,⟨0,c.hold,[]⟩,-1⟩
def pp(a ep n:Int):cu:={ kind:=3,ida:=a,ide:=ep,seq:=n,reason:=5 }
def jn(s:aI)(a:Int):List cu:=match dM s a with
 | some st=>(aG st.hs.rows).map (pp a (bg s.rows a).epoch)
 | none=>[]
def gT(s:aI)(a:Int):MS:=match dM s a with
 | some _=>(s.ms.leave a).1
 | none=>s.ms
def fB(s:aI)(r:Rp):aI×List cu×Int:=
 if (grant s.cfg.agents s.rows r.ag r.bt r.nw).2.2.2≠0 then (s,[],(grant s.cfg.agents s.rows r.ag r.bt r.nw).2.2.2) else
 if (grant s.cfg.agents s.rows r.ag r.bt r.nw).2.2.1 then
  ({ s with now:=r.nw,rows:=(grant s.cfg.agents s.rows r.ag r.bt r.nw).1,ms:=((gT s r.ag).join r.ag r.nw).1,sts:=s.sts.set r.ag.toNat (some (lP s.cfg)) },
   jn s r.ag++[{ kind:=1,agent:=r.ag,epoch:=(grant s.cfg.agents s.rows r.ag r.bt r.nw).2.1.epoch,boot:=(grant s.cfg.agents s.rows r.ag r.bt r.nw).2.1.boot }],0)
 else ({ s with now:=r.nw,rows:=(grant s.cfg.agents s.rows r.ag r.bt r.nw).1 },[{ kind:=1,agent:=r.ag,epoch:=(grant s.cfg.agents s.rows r.ag r.bt r.nw).2.1.epoch,boot:=(grant s.cfg.agents s.rows r.ag r.bt r.nw).2.1.boot }],0)
theorem Tj{most:Int}{rows:List En}{a b n:Int}(h:(grant most rows a b n).2.2.2≠0):(grant most rows a b n).1=rows:=by
 unfold grant at h ⊢
 split
 .rfl
 .rename_i d;rw[UW d]at h;dsimp only at h ⊢
  split
  .rfl
  .rename_i c;rw[UW c]at h
   split
   .rfl
   .rename_i i;rw[UW i]at h
    split
    .rfl
    .rename_i e;rw[UW e]at h
     split
     .rfl
     .rename_i f;rw[UW f]at h;simp at h
section
variable {F L:List aE}{H:aC}{K KP:KE}{Q Q':aE}
theorem Kc{tm k b:Nat}{bl:List (Option Nat)}{sts:List (Option br)}{s:br}(hm:bl.map Option.isSome=sts.map Option.isSome)(d:k<sts.length)
  (h:aA H (mapA aD ptV tm (mset ((k:Nat):Int) (some b) (cV 0 bl))::strA Q b s::lL Q bl sts k::F)):aA H (strmA Q tm (sts.set k (some s))::F):=by
 have c:bl.length=sts.length:=by have:=congrArg List.length hm;simpa using this
 have e:=pm (Q:=Q) (b:=b) (s:=s) (bl:=bl.set k none) (sts:=sts.set k none) (k:=k) (by rw[List.getElem?_set_self (by omega)]) (by rw[List.getElem?_set_self (by omega)]);rw[WF,WF]at e;have a:=xc (b:=b) (l:=bl) (i:=0) (k:=k) (by omega);rw[Vw]at a;rw[<-ns (r:=tm) a]at h;refine kU.2 ⟨bl.set k (some b),?_,?_⟩
 .rw [WE,WE,hm];rfl
 .rw [<-e];have h:=h.o [1,2,0] 3;have h:=gp.2 h;exact h.o [1,0] 2
theorem Kd{sb:Nat}{s:aI}{p:SAd}(ok:j9 s.cfg)(h:aA H (cellsA sb (dq s p) 145::F))
  (k:∀b c,aA c (strA Q b (lP s.cfg)::cellsA sb (dq s p) 145::F)->K (PA b 0) c):CF 145 #[PA sb 0] H K:=by
 refine cM 145 4380 ?_;refine⟨_,h.r 0,_,h.r 0,?_⟩;refine Il h (λa=>UY ok.rate a) λ_ cb e h=>⟨_,_,rfl,_,h.r 1,?_⟩
 refine Av (Q:=Q) h (λa=>UY ok.hd (by omega)) λhb d _ h=>⟨_,_,rfl,?_⟩
 refine h.al λb _ h=>?_
 refine k b _ (gS.2 ⟨cb,hb,?_⟩);exact h.o [0,2,1,3] 4
theorem Grant_spec{sb:Nat}{s:aI}{r:Rp}{a:KQ}{c:Nat}(ok:cQ s)(hr:r.right=true)(r9:r.kind=2)(h:aA H (stA Q sb s::F))
  (k:∀M L y,aA y (slA 305 87 M (fB s r).2.1.length L (flat dQ (fB s r).2.1)::stA Q sb (fB s r).1::F)->K (.tuple #[.slice M (fB s r).2.1.length L,aD (fB s r).2.2]) y) :
  CF 66 #[PA sb 0,.agg ⟨df r a c⟩] H K:=by
 have hL:=iC hr;have w:((r.ag.toNat:Nat):Int)=r.ag:=by have:=hL.ag;omega
 refine OA ?_;refine h.al λb H0 h=>?_
 have h:=h.o [1,0] 2;obtain⟨p,h⟩:=cW.1 h;intro Jn hJ;have P:∀bb y,aA y (cellsA bb (encE (bg s.rows r.ag)) 149::cellsA sb (dq s p) 145::Ro.rollC p.rb p.rm s.cfg.agents::Ro.mapE p.rm s.rows::Ma.markC p.mb p.mm s.ms::Ma.mapF p.mm s.ms.m::shC p.hb p.hm s.cfg.cells::cz p.hm s.cm::strmA Q p.tm s.sts::slA 164 74 p.ka s.kept.length p.kc (flat cI s.kept)::cellsA b (df r a c) 61::F)->Jn bb 0 y:=by
  intro bb H1 h;refine hJ _ _ _ ?_;intro j2 j3;unfold fB at k;have W:=Tj (most:=s.cfg.agents) (rows:=s.rows) (a:=r.ag) (b:=r.bt) (n:=r.nw);have I:∀eb y,aA y (cellsA eb (encE (grant s.cfg.agents s.rows r.ag r.bt r.nw).2.1) 149::cellsA bb (encE (bg s.rows r.ag)) 149::cellsA sb (dq s p) 145::Ro.rollC p.rb p.rm s.cfg.agents::Ro.mapE p.rm (grant s.cfg.agents s.rows r.ag r.bt r.nw).1::Ma.markC p.mb p.mm s.ms::Ma.mapF p.mm s.ms.m::shC p.hb p.hm s.cfg.cells::cz p.hm s.cm::strmA Q p.tm s.sts::slA 164 74 p.ka s.kept.length p.kc (flat cI s.kept)::cellsA b (df r a c) 61::F)->
    j2 eb 0 (grant s.cfg.agents s.rows r.ag r.bt r.nw).2.2.1 (grant s.cfg.agents s.rows r.ag r.bt r.nw).2.2.2 y:=by
   intro eb H2 h;refine j3 _ _ _ _ _ ?_;generalize grant s.cfg.agents s.rows r.ag r.bt r.nw=G at *;refine⟨λS=>?_,λS=>?_⟩
   .have S:G.2.2.2≠0:=by simpa using S
    rw[UX S]at k;rw[W S]at h;have h:=h.o [2,3,4,5,6,7,8,9,10] 12;have h:=cW.2 ⟨p,h⟩;exact k none 0 _ (h.sl_nil 305 87)
   have S:¬G.2.2.2≠0:=by simpa using S
   rw[UW S]at k;refine⟨_,h.r 11,?_⟩;refine h.st 2 rfl rfl ?_;intro Y h;intro h6 h7;have fin:∀(d:List cu) (la:KQ) (lc:Nat) (s':aI) (p':SAd) y,d.length<=1000000->(∀M L A,aA A (slA 305 87 M (d.length+1) L (flat dQ (d++[{ kind:=1,agent:=r.ag,epoch:=G.2.1.epoch,boot:=G.2.1.boot }]))::stA Q sb s'::F)->K (.tuple #[.slice M (d.length+1) L,aD 0]) A)->
     aA y (slA 305 87 la d.length lc (flat dQ d)::cellsA eb (encE G.2.1) 149::cellsA b (df r a c) 61::stA Q sb s'::F)->h6 la d.length lc y:=by
    intro d la lc s' p' H4 h0 kk h;refine h7 _ _ _ _ ?_;refine⟨_,h.r 2,_,h.r 1,_,h.r 1,?_⟩;refine h.al λb1 _ h=>?_
    refine h.append (m:=1) (ws:=dQ { kind:=1,agent:=r.ag,epoch:=G.2.1.epoch,boot:=G.2.1.boot }) sl39 1 rfl (h.ce_rd 0 rfl) rfl (uo _) (by omega) (by omega) λa5 c5 H5 h=>⟨_,_,_,rfl,?_⟩
    refine kk _ _ _ ?_;rw[dT,show flat dQ [({ kind:=1,agent:=r.ag,epoch:=G.2.1.epoch,boot:=G.2.1.boot }:cu)]=dQ { kind:=1,agent:=r.ag,epoch:=G.2.1.epoch,boot:=G.2.1.boot } by simp[flat]];exact h.o [1,4] 5
   refine⟨λZ=>?_,λZ=>?_⟩
   .rw [UX Z]at k;have B:r.ag.toNat<s.sts.length:=by have:=ok.len;have:=hL.ag;omega
    have C:∀(bl:List (Option Nat)) (la:KQ) (lc:Nat) y,bl.map Option.isSome=s.sts.map Option.isSome->(jn s r.ag).length<=1000000->
      aA y (slA 305 87 la (jn s r.ag).length lc (flat dQ (jn s r.ag))::mapA aD ptV p.tm (cV 0 bl)::lL Q bl s.sts r.ag.toNat::Ma.markC p.mb p.mm (gT s r.ag)::Ma.mapF p.mm (gT s r.ag).m::cellsA eb (encE G.2.1) 149::cellsA sb (dq { s with now:=r.nw } p) 145::Ro.rollC p.rb p.rm s.cfg.agents::Ro.mapE p.rm G.1::shC p.hb p.hm s.cfg.cells::cz p.hm s.cm::slA 164 74 p.ka s.kept.length p.kc (flat cI s.kept)::cellsA b (df r a c) 61::F)->
      yX.r2 sb 0 b h6 la (jn s r.ag).length lc y:=by
     intro bl la lc H4 hm h0 h;unfold yX.r2;refine⟨_,h.r 6,_,h.r 12,?_⟩;have h:=h.o [6,0,1,2,3,4,5,7,8,9,10,11,12] 13;refine Kd (s:=({ s with now:=r.nw }:aI)) (Q:=Q) ok.cfg h λnb H5 h=>⟨_,rfl,h.r 13,h.r 1,?_⟩
     rw[<-w];refine h.mp_update (α:=Option Nat) (v:=some nb) (x:=((r.ag.toNat:Nat):Int)) qA ko2 3 rfl λH6 h=>?_
     rw[w];refine⟨_,h.r 1,_,h.r 13,_,h.r 13,?_⟩;have h:=h.o [5,6,0,1,2,3,4,7,8,9,10,11,12,13] 14;refine Ma.Join_spec (a:=r.ag) (t:=r.nw) h λH7 h=>⟨_,rfl,?_⟩
     refine fin (jn s r.ag) la lc { s with now:=r.nw,rows:=G.1,ms:=((gT s r.ag).join r.ag r.nw).1,sts:=s.sts.set r.ag.toNat (some (lP s.cfg)) } p _ h0 (λM L A h=>?_) ?_
     .have hk:=k M L A;rw[UZ]at hk;exact hk h
     .
      have h:=h.o [5,2,6,0,1,3,4,7,8,9,10,11,12,13] 14;rw[<-w]at h;have h:=Kc hm B h;rw[w]at h;have h:=h.o [3,6,7,1,2,8,9,0,10,4,5,11] 12;have h:aA H7 (stA Q sb { s with now:=r.nw,rows:=G.1,ms:=((gT s r.ag).join r.ag r.nw).1,sts:=s.sts.set r.ag.toNat (some (lP s.cfg)) }::_):=cW.2 ⟨p,h⟩;exact h.o [1,2,3,0] 4
    refine⟨_,h.r 2,_,h.r 11,?_⟩;have U:(∃st,s.sts[r.ag.toNat]?=some (some st))\/s.sts[r.ag.toNat]?=some none:=by
     rw[List.getElem?_eq_getElem B]
     cases s.sts[r.ag.toNat] with
     | none=>exact .inr rfl
     | some st=>exact .inl ⟨st,rfl⟩
    rcases U with ⟨st,u⟩|u
    .have f:=ok.sts st (VA u);have E:=xi hL.ag.1 u;have D:jn s r.ag=(aG st.hs.rows).map (pp r.ag (bg s.rows r.ag).epoch):=by unfold jn;rw[E]
     have T:gT s r.ag=(s.ms.leave r.ag).1:=by unfold gT;rw[E]
     have h:=h.o [9,0,1,2,3,4,5,6,7,8,10,11] 12;obtain⟨r8,bl,O,h⟩:=qC h u;have h:=h.o [1,0,2,3,4,5,6,7,8,9,10,11,12,13] 14;obtain⟨cb,hb,h⟩:=gS.1 h;have N:=qD O h 3 rfl;rw[w]at N;refine⟨_,N,?_⟩;intro h9 V;refine⟨λ_=>cY ⟨_,h.r 0,?_⟩,λhn=>UY hn (by simp)⟩
     have h:=h.o [2,0,1,3,4,5,6,7,8,9,10,11,12,13,14,15] 16;have l6:=f.hs.rows.length;have r0:=f.hs.most2;have l0:st.hs.rows.length<=256:=by omega
     refine Aw h f.hs.rows.rising (λq hq=>by
      have h1:=(f.rows q hq).1;have h2:=(f.hs.rows.inb q hq).1;have h3:=f.hs.next0;unfold aF;omega) (by omega) λwa wc H4 h=>⟨_,_,_,rfl,?_⟩
     have h8:(aG st.hs.rows).length=st.hs.rows.length:=by simp[aG]
     refine⟨λla J lc i y=>∃j:Nat,i=j/\j<=st.hs.rows.length/\J=j/\
      aA y (slA 305 87 la j lc (flat dQ (((aG st.hs.rows).take j).map (pp r.ag (bg s.rows r.ag).epoch)))::slA 2 1 wa st.hs.rows.length wc ((aG st.hs.rows).map aD)::mapA aD ptV p.tm (cV 0 bl)::lL Q bl s.sts r.ag.toNat::cellsA eb (encE G.2.1) 149::cellsA bb (encE (bg s.rows r.ag)) 149::cellsA sb (dq { s with now:=r.nw } p) 145::Ro.rollC p.rb p.rm s.cfg.agents::Ro.mapE p.rm G.1::Ma.markC p.mb p.mm s.ms::Ma.mapF p.mm s.ms.m::shC p.hb p.hm s.cfg.cells::cz p.hm s.cm::slA 164 74 p.ka s.kept.length p.kc (flat cI s.kept)::cellsA b (df r a c) 61::F),
      λ_ _ _ i _=>st.hs.rows.length-i.toNat,⟨0,rfl,by omega,rfl,(h.sl_nil 305 87).o [0,1,5,6,7,8,9,10,11,12,13,14,15,16,17] 18⟩,?_⟩
     rintro la J lc i H5 ⟨j,rfl,hj,rfl,h⟩;refine⟨λhc=>?_,λhc=>?_⟩
     .have B:J<st.hs.rows.length:=by have:=Va hc;omega
      have R:J<(aG st.hs.rows).length:=by omega
      have h4:=(h.sl_rd 1 rfl).at R;refine⟨by omega,_,_,h4.1,_,h4.2,_,h.r 14,_,h.r 5,?_⟩;refine h.al λb3 _ h=>?_
      refine h.append (m:=1) (ws:=dQ (pp r.ag (bg s.rows r.ag).epoch (aG st.hs.rows)[J])) sl39 1 rfl (h.ce_rd 0 rfl) rfl (uo _) (by omega) (by omega) λa5 c5 H7 h=>⟨_,_,_,rfl,?_⟩
      rw[aJ (x:=(J:Int)+1)];refine⟨⟨J+1,by omega,B,rfl,?_⟩,by dsimp only;omega⟩;rw[VE R,Vv,dT,show flat dQ ([(aG st.hs.rows)[J]].map (pp r.ag (bg s.rows r.ag).epoch))=dQ (pp r.ag (bg s.rows r.ag).epoch (aG st.hs.rows)[J]) by simp[flat]];exact h.o [1,2,3,4,5,6,7,8,9,10,11,12,13,14,15] 16
     .have j1:J=st.hs.rows.length:=by have:=Vb hc;omega
      subst j1;rw[V2 (by omega),<-D]at h;have h5:(jn s r.ag).length=st.hs.rows.length:=by rw[D,Vl,h8]
      refine⟨_,h.r 6,_,h.r 14,?_⟩;have h:=h.o [9,10,0,1,2,3,4,5,6,7,8,11,12,13,14] 15;refine Ma.Leave_spec (a:=r.ag) h λH6 h=>⟨_,rfl,?_⟩
      rw[<-T]at h;refine V _ _ _ _ ?_;rw[<-h5]at h ⊢;exact C bl la lc H6 O.m (by omega) (h.o [2,4,5,0,1,6,8,9,10,11,12,13,14] 15)
    .have E:dM s r.ag=none:=by unfold dM;rw[UW (by have:=hL.ag;omega),u];rfl
     have D:jn s r.ag=[]:=by unfold jn;rw[E]
     have T:gT s r.ag=s.ms:=by unfold gT;rw[E]
     refine⟨_,str_nil (h.o [9] 12) (.inr (.inl u)),?_⟩;intro h9 V;refine⟨λhn=>UY hn (by simp),λ_=>V _ _ _ _ ?_⟩
     have h:=h.o [9,5,6,0,2,3,4,7,8,10,11] 12;obtain⟨bl,hm,h⟩:=kU.1 h;have l5:bl.length=s.sts.length:=by have:=congrArg List.length hm;simpa using this
     have e1:s.sts.set r.ag.toNat none=s.sts:=by
      have:s.sts[r.ag.toNat]=none:=by rw[List.getElem?_eq_getElem B]at u;exact Option.some.inj u
      rw[<-this,Ws]
     have e2:bl.set r.ag.toNat none=bl:=by
      have h1:=qB hm r.ag.toNat
      rw[u,List.getElem?_eq_getElem (show r.ag.toNat<bl.length by omega)]at h1;have:bl[r.ag.toNat]=none:=by
       cases e:bl[r.ag.toNat] with
       | none=>rfl
       | some x=>rw[e]at h1;simp at h1
      rw[<-this,Ws]
     have Z:=C bl none 0 Y hm (by rw[D];simp);rw[D,T]at Z;refine Z ?_;rw[show lL Q bl s.sts r.ag.toNat=strsA Q bl s.sts by unfold lL;rw[e1,e2]];exact h.sl_nil 305 87
   .rw [UW (by simpa using Z)]at k;have h:=h.o [2,3,4,5,6,7,8,9,10,0,11] 12;have h:aA Y (stA Q sb { s with now:=r.nw,rows:=G.1 }::_):=cW.2 ⟨p,h⟩;refine fin [] none 0 _ p _ (by simp) (λM L A h=>k M L A h) ?_
    exact (h.sl_nil 305 87).o [0,2,3,1] 4
  refine⟨_,h.r 1,_,h.r 10,_,h.r 10,_,h.r 10,?_,?_⟩
  .have h:=h.o [2,3,0,1,4,5,6,7,8,9,10] 11;refine Ro.Grant_spec ok.rows (agent:=r.ag) (boot:=r.bt) (now:=r.nw) h λH2 h=>⟨_,_,_,_,_,rfl,?_⟩
   refine h.al λb4 _ h=>?_
   refine h.st 0 rfl rfl ?_;intro Y h;exact I _ _ (h.o [0,3,4,1,2,5,6,7,8,9,10,11] 12)
  .refine h.al λb5 _ h=>⟨h.r 11,h.r 11,h.r 11,h.r 2,?_⟩
   have h:=h.o [3,4,0,1,2,5,6,7,8,9,10,11] 12;refine Ro.Grant_spec ok.rows (agent:=r.ag) (boot:=r.bt) (now:=r.nw) h λH2 h=>⟨_,_,_,_,_,rfl,?_⟩
   refine h.st 2 rfl rfl ?_;intro Y h;exact I _ _ (h.o [2,3,4,0,1,5,6,7,8,9,10,11] 12)
 refine⟨_,h.r 0,_,h.r 9,?_,?_⟩
 .have h:=h.o [1,2,0,3,4,5,6,7,8,9] 10;refine Ro.Of_spec ok.rows (agent:=r.ag) h λH2 h=>⟨_,_,_,_,rfl,?_⟩
  refine h.al λb6 _ h=>?_
  refine h.st 0 rfl rfl ?_;intro Y h;exact P _ _ (h.o [0,3,1,2,4,5,6,7,8,9,10] 11)
 .refine h.al λb7 _ h=>⟨h.r 10,h.r 1,?_⟩
  have h:=h.o [2,3,0,1,4,5,6,7,8,9,10] 11;refine Ro.Of_spec ok.rows (agent:=r.ag) h λH2 h=>⟨_,_,_,_,rfl,?_⟩
  refine h.st 2 rfl rfl ?_;intro Y h;exact P _ _ (h.o [2,3,0,1,4,5,6,7,8,9,10] 11)
end
def mM(s:aI)(r:Rp):aI:=match s.sts[r.ag.toNat]? with
 | some (some st)=>{ s with now:=r.sm.came,ms:=(s.ms.hold r.ag (kM st.ck r.sm).1.held).1,sts:=s.sts.set r.ag.toNat (some { st with ck:=(kM st.ck r.sm).1 }) }
 | _=>s
def mN(s:aI)(r:Rp):aI:=if s.sunk<r.nx then { s with kept:=s.kept.drop (r.nx-s.sunk).toNat,sunk:=r.nx } else s
def bN(s:aI)(r:Rp):aI×List cu×Int:=
 if r.right=false then (s,[],10) else
 if fA s r≠0 then (s,[],fA s r) else
 if r.kind=1 then ({ s with boots:=s.boots+1 },[],0) else
 if r.kind=2 then fB s r else
 if r.kind=3 then (mM s r,[],0) else
 if r.kind=4 then ((gz s r).1,(gz s r).2,0) else
 if r.kind=5 then (lN s r,[],0) else
 if r.kind=6 then ((kB s r.nw).1,(kB s r.nw).2,0) else
 (mN s r,[],0)
theorem kV{s:aI}{r:Rp}(ok:cQ s)(f:RLim r)(h:fA s r=0)(c:r.kind=3\/r.kind=4\/r.kind=5):∃st,s.sts[r.ag.toNat]?=some (some st):=by
 unfold fA at h;rw[nO,nO]at h;unfold sr at h;have b:=f.ep.1 c
 split at h
 .simp at h
 .rename_i d;have a:isE s r.ag r.ep=true:=by
   cases e:isE s r.ag r.ep
   .exact UY ⟨by omega,e⟩ d
   .rfl
  unfold isE at a;rw[Vd]at a;exact (ok.str (Va a.1)).2
section
variable {F L:List aE}{H:aC}{K KP:KE}{Q Q':aE}
theorem Ke{sb:Nat}{s:aI}{r:Rp}{a:KQ}{c:Nat}{evs:List Ev}(ok:cQ s)(hs:s.sunk<=4611686018427387903)(S:s.kept.length<=100000000000)(A:om Q F r a evs)(h:aA H (Q::stA Q sb s::F))
  (k:∀Q' m i d,aM Q Q'->aA d (Q'::slA 305 87 m (bN s r).2.1.length i (flat dQ (bN s r).2.1)::stA Q' sb (bN s r).1::F)->K (.tuple #[.slice m (bN s r).2.1.length i,aD (bN s r).2.2]) d) :
  CF 19 #[PA sb 0,.agg ⟨df r a c⟩] H K:=by
 have j1:r.evs.length=evs.length:=by rw[A.eq,Vl]
 refine cN 19 0x1d21b21517413c17111413c17413c17171499c [[],[],[],[],[]] ?_;refine h.al λb H0 h=>⟨_,_,_,_,_,_,_,_,_,_,_,_,_,_,h.q 0,?_⟩
 unfold bN at k;refine A0 A.eq h ⟨λH h=>A.rd H h.tl.tl.tl,λe he H h=>(A.labs e he).at h 1 rfl⟩ (by have:=A.len;omega) λH1 h=>⟨_,rfl,λN=>?_,λN=>?_⟩
 .rw [UX (by simpa using N)]at k;have h:=h.o [1,2] 3;exact k Q none 0 _ (aM.refl Q) ((h.sl_nil 305 87).o [1,0,2] 3)
 have Y:r.right=true:=by simpa using N
 have C:=iC Y;rw[UW (by rw[Y];simp)]at k;have h:=h.o [2,0,1] 3;refine⟨_,_,_,_,_,_,_,_,_,_,_,_,_,_,h.q 1,?_⟩;refine Ti ok hs S Y h λH2 h=>⟨_,rfl,λN=>?_,λN=>?_⟩
 .rw [UX (by simpa using N)]at k;have h:=h.o [0,2] 3;exact k Q none 0 _ (aM.refl Q) ((h.sl_nil 305 87).o [2,0,1] 3)
 have t:fA s r=0:=by simpa using N
 rw[UW (by rw[t];simp)]at k;refine⟨_,h.r 1,?_⟩;intro Jn hJ;have fin:∀(n:aI) d,(∀Q' m i d,aM Q Q'->aA d (Q'::slA 305 87 m 0 i []::stA Q' sb n::F)->K (.tuple #[.slice m 0 i,aD 0]) d)->aA d (stA Q sb n::Q::F)->Jn d:=by
  intro n d kk h;refine hJ _ ?_;exact kk Q none 0 _ (aM.refl Q) ((h.sl_nil 305 87).o [2,0,1] 3)
 refine⟨λf=>?_,λf=>?_⟩
 .have f:=Va f;rw[UX f]at k;obtain⟨p,h⟩:=cW.1 h;refine⟨_,h.r 0,?_⟩;refine h.st 0 rfl rfl ?_;intro y h;have hb:=ok.boots;rw[aJ (x:=s.boots+1)]at h;have h:=h.o [0,1,2,3,4,5,6,7,8,10] 11;have h:aA y (stA Q sb { s with boots:=s.boots+1 }::_):=cW.2 ⟨p,h⟩;exact fin _ _ k h
 have R:=Vb f;rw[UW R]at k;refine⟨λf=>?_,λf=>?_⟩
 .have D:=Va f;rw[UX D]at k;refine⟨_,_,_,_,_,_,_,_,_,_,_,_,_,_,h.q 1,?_⟩;refine Grant_spec ok Y D h λm i y h=>⟨_,_,_,_,rfl,?_⟩
  exact k Q m i y (aM.refl Q) (h.o [3,0,1] 4)
 have D:=Vb f;rw[UW D]at k;intro h6 h8;have L:∀(n:aI) d,(∀Q' m i d,aM Q Q'->aA d (Q'::slA 305 87 m 0 i []::stA Q' sb n::F)->K (.tuple #[.slice m 0 i,aD 0]) d)->aA d (stA Q sb n::Q::F)->h6 d:=by
  intro n d kk h;refine h8 _ ?_;exact fin n d kk h
 refine⟨λf=>?_,λf=>?_⟩
 .have E:=Va f;rw[UX E]at k;obtain⟨st,u⟩:=kV ok C t (.inl E);unfold mM at k;rw[u]at k;dsimp only at k;have W:=ok.sts st (VA u);have T:((r.ag.toNat:Nat):Int)=r.ag:=by have:=C.ag;omega
  obtain⟨p,h⟩:=cW.1 h;have h:=h.o [7,0,1,2,3,4,5,6,8,9,10] 11;obtain⟨h5,bl,I,h⟩:=qC h u;have h:=h.o [1,0,2,3,4,5,6,7,8,9,10,11,12] 13;obtain⟨cb,hb,h⟩:=gS.1 h;have G:=qD I h 3 rfl;rw[T]at G;refine⟨_,h.r 5,_,h.r 13,_,G,⟨_,h.rd 0 rfl 0,_,_,_,_,h.q 13,?_⟩⟩;have h:=h.o [1,0,2,3,4,5,6,7,8,9,10,11,12,13,14] 15;refine QL (s:=r.sm) W.ck h λy h=>⟨_,rfl,_,h.r 5,_,h.rd 13 rfl _,⟨_,h.rd 1 rfl 0,_,tW h,?_⟩⟩
  have h:=h.o [8,9,0,1,2,3,4,5,6,7,10,11,12,13,14] 15;refine Ma.Hold_spec (a:=r.ag) (v:=(kM st.ck r.sm).1.held) h λH4 h=>⟨_,rfl,_,h.r 13,?_⟩
  refine h.st 7 rfl rfl ?_;intro H5 h;refine L _ _ k ?_;have h:=h.o [3,2,4,5,6,7,8,9,0,1,10,11,12,14] 15;have h:aA H5 (strA Q h5 { st with ck:=(kM st.ck r.sm).1 }::_):=gS.2 ⟨cb,hb,h⟩;have h:=h.o [1,0,2,3,4,5,6,7,8,9,10,11] 12;have h:=sj I h;exact cW.2 ⟨p,h.o [1,2,3,4,5,6,7,0,8,9] 10⟩
 have E:=Vb f;rw[UW E]at k;refine⟨λf=>?_,λf=>?_⟩
 .have w:=Va f;rw[UX w]at k;obtain⟨st,u⟩:=kV ok C t (.inr (.inl w));have hb:=C.evs w;unfold gQ at hb;simp only[Vd,Vc,VL]at hb;refine⟨_,_,_,_,_,_,_,_,_,_,_,_,_,_,h.q 1,?_⟩;have h:=h.o [2,0,1] 3;refine Tg (evs:=evs) ok C.ag.1 u ⟨A.eq,λH h=>A.rd H h.tl,A.labs,A.len,A.vals⟩ (λe he=>hb.2.2 e he) (by omega) h λQ2 m i y h0 h=>⟨_,_,_,rfl,?_⟩
  exact k Q2 m i y h0 (h.o [0,1,2] 4)
 have w:=Vb f;rw[UW w]at k;intro h4 Z;have M:∀(n:aI) d,(∀Q' m i d,aM Q Q'->aA d (Q'::slA 305 87 m 0 i []::stA Q' sb n::F)->K (.tuple #[.slice m 0 i,aD 0]) d)->aA d (stA Q sb n::Q::F)->h4 d:=by
  intro n d kk h;refine Z _ ?_;exact L n d kk h
 refine⟨λf=>?_,λf=>?_⟩
 .have B:=Va f;rw[UX B]at k;obtain⟨st,u⟩:=kV ok C t (.inr (.inr B));refine⟨_,_,_,_,_,_,_,_,_,_,_,_,_,_,h.q 1,?_⟩;refine Th ok C.ag.1 u h λy h=>⟨rfl,M _ _ k (h.o [0,2] 3)⟩
 have B:=Vb f;rw[UW B]at k;refine⟨λf=>?_,λf=>?_⟩
 .have O:=Va f;rw[UX O]at k;refine⟨_,h.r 1,?_⟩;refine Tick_spec ok hs S h λm i y h=>⟨_,_,_,rfl,?_⟩
  exact k Q m i y (aM.refl Q) (h.o [3,0,1] 4)
 have O:=Vb f;rw[UW O]at k;intro h3 h1;have P:∀(n:aI) d,(∀Q' m i d,aM Q Q'->aA d (Q'::slA 305 87 m 0 i []::stA Q' sb n::F)->K (.tuple #[.slice m 0 i,aD 0]) d)->aA d (stA Q sb n::Q::F)->h3 d:=by
  intro n d kk h;refine h1 _ ?_;exact M n d kk h
 have U:r.kind=7:=by have:=C.kind;omega
 refine⟨λ_=>?_,λf=>UY U (Vb f)⟩
 obtain⟨p,h⟩:=cW.1 h;refine⟨_,h.r 9,_,h.r 0,?_⟩;intro h7 h2;have J:∀(n:aI) d,(∀Q' m i d,aM Q Q'->aA d (Q'::slA 305 87 m 0 i []::stA Q' sb n::F)->K (.tuple #[.slice m 0 i,aD 0]) d)->aA d (stA Q sb n::Q::F)->h7 d:=by
  intro n d kk h;refine h2 _ ?_;exact P n d kk h
 unfold mN at k;refine⟨λf=>?_,λf=>?_⟩
 .have f:=Va f;rw[UX f]at k;have V:r.nx<=s.next:=by
   unfold fA at t;rw[UW R,UX U]at t
   split at t
   .simp at t
   .omega
  have V:r.nx<=s.sunk+(s.kept.length:Int):=V;have j2:=ok.sunk;have h9:=C.nx;have hw:i64.wrap (r.nx-s.sunk)=((r.nx-s.sunk).toNat:Nat):=by rw[aJ];omega
  refine⟨_,_,_,h.r 0,_,h.r 9,_,h.r 0,?_⟩;dsimp only
  conv=>whnf
  rw[hw];have h:=h.o [8,0,1,2,3,4,5,6,7,9,10] 11;refine Sg (j:=(r.nx-s.sunk).toNat) (by omega) h λy h=>⟨_,_,_,rfl,?_⟩
  refine h.st 1 rfl rfl ?_;intro H4 h;refine⟨_,h.r 9,?_⟩;refine h.st 1 rfl rfl ?_;intro H5 h;refine J _ _ k ?_;refine cW.2 ⟨p,?_⟩;have e:(s.kept.drop (r.nx-s.sunk).toNat).length=s.kept.length-(r.nx-s.sunk).toNat:=Vt ..;simp only[dq,e];exact h.o [1,2,3,4,5,6,7,8,0,10] 11
 .rw [UW (Vb f)]at k;refine J _ _ k (cW.2 ⟨p,h.o [0,1,2,3,4,5,6,7,8,10] 11⟩)
end
section
variable {α:Type}
theorem Kf{next most B:Int}:∀{l:List α} {n:Int} {s:cy α×Int},(∀p∈s.1,p.1<B)->n+l.length<=B->∀p∈(ff next most n l s).1,p.1<B
 | [],n,s,h,_=>h
 | v::vs,n,s,h,hn=>by
  rw[Vf]at hn;refine Kf (l:=vs) (λp a=>?_) (by omega)
  unfold eB at a
  split at a
  .exact h p a
  .split at a
   .exact h p a
   .rcases tu.1 a with rfl|a
    .show n<B;omega
    .exact h p a
theorem pop_le{B:Int}:∀{l:cy α} {next:Int},next<=B->(∀p∈l,p.1<B)->(pop next l).2.1<=B
 | [],next,h,_=>h
 | (n,v)::r,next,h,hl=>by
  unfold pop
  split
  .rename_i e;have:=hl _ (Vn ..);exact pop_le (l:=r) (next:=next+1) (by dsimp only at this;omega) λp a=>hl p (Vq _ a)
  .exact h
theorem Kg{s:HS α}{first B:Int}{items:List α}(b:s.next<=B)(a:∀p∈s.rows,p.1<B)(d:first+items.length<=B) :
  (s.offer first items).1.next<=B/\∀p∈(s.offer first items).1.rows,p.1<B:=by
 unfold HS.offer
 split
 .exact⟨b,a⟩
 .have h:=Kf (next:=s.next) (most:=s.most) (l:=items) (n:=first) (s:=(s.rows,0)) a d;exact⟨pop_le b h,λp c=>h p (At.2 p c)⟩
end
theorem Kh(ms:MS)(a t:Int):(ms.raise a t).1.lag=ms.lag:=by
 unfold MS.raise
 split
 .rfl
 .split <;> rfl
theorem hold_lag(ms:MS)(a:Int)(b:Bool):(ms.hold a b).1.lag=ms.lag:=by
 unfold MS.hold;split <;> rfl
theorem Tk(ms:MS)(a:Int):(ms.leave a).1.lag=ms.lag:=by
 unfold MS.leave;split <;> rfl
theorem join_lag(ms:MS)(a t:Int):(ms.join a t).1.lag=ms.lag:=by
 unfold MS.join
 split
 .rfl
 .split <;> rfl
theorem tick_lag(ms:MS)(t:Int):(ms.tick t).1.lag=ms.lag:=by
 unfold MS.tick;split <;> rfl
theorem Ki{c:bG}{now a:Int}{st:br}{ms:MS}{cm:CM}{e:Pv}(h:MOk ms):MOk (eE c now a st ms cm e).ms/\(eE c now a st ms cm e).ms.lag=ms.lag:=by
 have d:=h.raise a (cO st.ck (bE ms a) now e.stamp).1.lo;have b:=Kh ms a (cO st.ck (bE ms a) now e.stamp).1.lo;unfold eE
 split
 .exact⟨h,rfl⟩
 split
 .exact⟨h,rfl⟩
 split
 .exact⟨d,b⟩
 split
 .exact⟨d,b⟩
 split <;> exact⟨d,b⟩
theorem Kj{c:bG}{now a ep first:Int}{evs:List Pv}{x:JS}(h:MOk x.ms)(f:-1<=x.st.last/\x.st.last<=4611686018427387903)(i:∀e∈evs,gP e=true):∀n,n<=evs.length->
  MOk (dg c now a ep first evs x n).1.ms/\(dg c now a ep first evs x n).1.ms.lag=x.ms.lag/\-1<=(dg c now a ep first evs x n).1.st.last/\(dg c now a ep first evs x n).1.st.last<=4611686018427387903
 | 0,_=>⟨h,rfl,f⟩
 | n+1,hn=>by
  have d:=Kj (c:=c) (now:=now) (a:=a) (ep:=ep) (first:=first) h f i n (by omega);have j:=xh c now a (dg c now a ep first evs x n).1.st (dg c now a ep first evs x n).1.ms (dg c now a ep first evs x n).1.cm (evs.getD n Pv.z);have hm:=Ki (c:=c) (now:=now) (a:=a) (st:=(dg c now a ep first evs x n).1.st) (cm:=(dg c now a ep first evs x n).1.cm) (e:=evs.getD n Pv.z) d.1;have b:gP (evs.getD n Pv.z)=true:=by rw[og _ (by omega)];exact i _ (Vk _)
  unfold gP at b;simp only[Vd,Vc]at b;refine⟨hm.1,hm.2.trans d.2.1,?_⟩;show -1<=(eE c now a _ _ _ _).st.last/\(eE c now a _ _ _ _).st.last<=_
  rcases j.2.2 with e|e
  .rw [e];exact d.2.2
  .rw [e];omega
theorem cQ.setStr{s:aI}(ok:cQ s){k:Nat}{st a:br}{now:Int}{ms:MS}{cm:CM}(d:s.sts[k]?=some (some st))(m:isT now)(f:MOk ms)(h:ms.lag=s.ms.lag)(n:ee s.cfg.cells cm)(i:lM s.cfg a) :
  cQ { s with now:=now,ms:=ms,cm:=cm,sts:=s.sts.set k (some a) }:=by
 have c:k<s.sts.length:=(List.getElem?_eq_some_iff.1 d).1;refine⟨ok.cfg,m,ok.boots,ok.sunk,ok.rows,f,h.trans ok.lag,n,?_,λx b=>?_,λj=>?_,ok.kept⟩
 .show (s.sts.set k _).length=64;rw[WY,ok.len]
 .rcases WX b with b|b
  .exact ok.sts x b
  .cases b;exact i
 .rw [<-ok.reg j];show (∃x,(s.sts.set k (some a))[j]?=some (some x))↔_
  by_cases e:j=k
  .subst e;rw[List.getElem?_set_self c];exact⟨λ_=>⟨st,d⟩,λ_=>⟨a,rfl⟩⟩
  .rw [List.getElem?_set_ne (by omega)]
theorem cQ.upd{s:aI}(ok:cQ s){now:Int}{ms:MS}{cm:CM}{kept:List Ot}{sunk boots:Int}(e:isT now)(b:MOk ms)(h:ms.lag=s.ms.lag)(f:ee s.cfg.cells cm)(c:∀o∈kept,WC o.2)(a:0<=sunk)(d:0<=boots/\boots<=1099511627776) :
  cQ { s with now:=now,ms:=ms,cm:=cm,kept:=kept,sunk:=sunk,boots:=boots }:=
 ⟨ok.cfg,e,d,a,ok.rows,b,h.trans ok.lag,f,ok.len,ok.sts,ok.reg,c⟩
theorem xj{most:Int}{m:CM}(h:ee most m):∀o∈bA m,WC o.2:=by
 intro o a;unfold bA at a;obtain⟨k,_,rfl⟩:=Vh.1 a;exact h.cell k
theorem Tl{c:bG}(h:j9 c):lM c (lP c) where
 ck:=⟨by simp[lP],λs hs=>UY hs (by simp[lP]),by show (0:Int)<=0/\(0:Int)<=9223372036854775807;decide⟩
 rho:=rfl
 least:=rfl
 hs:=⟨by show (0:Int)<=0;decide,h.hd.1,h.hd.2,⟨by simp[lP,gG],λp a=>UY a (by simp[lP])⟩⟩
 most:=rfl
 next:=by show (0:Int)<=_;decide
 rows:=λp a=>UY a (by simp[lP])
 last:=by show (-1:Int)<=-1/\(-1:Int)<=4611686018427387903;decide
theorem Tm(c:Ck)(s:bP):(kM c s).1.rho=c.rho/\(kM c s).1.least=c.least:=by
 unfold kM
 split
 .exact⟨rfl,rfl⟩
 .dsimp only;generalize oW _=B
  cases B <;> exact⟨rfl,rfl⟩
theorem batch_ok{s:aI}{r:Rp}(ok:cQ s)(u:RLim r)(A:r.kind=4){st:br}(i:s.sts[r.ag.toNat]?=some (some st))(v:∀e∈r.evs,aF e.value):cQ (gz s r).1:=by
 have b:=ok.sts st (VA i);have hb:=u.evs A;unfold gQ at hb;simp only[Vd,Vc,VL]at hb;obtain⟨⟨E,w⟩,⟨⟨D,y⟩,C⟩,k⟩:=hb;have t:=HS.offer_ok b.hs r.nx r.evs;have hm:=ue (s:=st.hs) (first:=r.nx) (items:=r.evs);have m:=Kg (s:=st.hs) (first:=r.nx) (B:=1099511627776) (items:=r.evs) b.next (λp n=>(b.rows p n).1) (by omega)
 unfold gz;rw[i];dsimp only;unfold kA;generalize st.hs.offer r.nx r.evs=O at *;have good:∀e∈O.2.1,gP e=true/\aF e.value:=by
  intro e j
  rcases hm.1 e j with h|⟨q,h,rfl⟩
  .exact⟨k e h,v e h⟩
  .exact (b.rows q h).2
 have d:=AR (c:=s.cfg) (now:=r.nw) (a:=r.ag) (ep:=r.ep) (first:=st.hs.next) (evs:=O.2.1) (x:=⟨{ st with hs:=O.1 },s.ms,s.cm⟩) ok.sh (λe j=>(good e j).2) O.2.1.length (Vg _)
 have f:=Kj (c:=s.cfg) (now:=r.nw) (a:=r.ag) (ep:=r.ep) (first:=st.hs.next) (evs:=O.2.1) (x:=⟨{ st with hs:=O.1 },s.ms,s.cm⟩) ok.ms b.last (λe j=>(good e j).1) O.2.1.length (Vg _)
 generalize dg s.cfg r.nw r.ag r.ep st.hs.next O.2.1 ⟨{ st with hs:=O.1 },s.ms,s.cm⟩ O.2.1.length=G at *;refine ok.setStr i u.nw f.1 f.2.1 d.1 ⟨by rw[d.2.1];exact b.ck,by rw[d.2.1];exact b.rho,by rw[d.2.1];exact b.least,by rw[d.2.2.1];exact t.1,by rw[d.2.2.1];exact t.2.2.2.trans b.most,by rw[d.2.2.1];exact m.1,?_,f.2.2⟩;rw[d.2.2.1];intro p n;refine⟨m.2 p n,?_⟩
 rcases hm.2 p n with h|h
 .exact⟨k _ h,v _ h⟩
 .exact (b.rows p h).2
theorem xk{most:Int}{rows:List En}(c:fO rows)(a b n:Int) :
  ((grant most rows a b n).2.2.1=true/\(grant most rows a b n).1=rows.set a.toNat (grant most rows a b n).2.1/\0<(grant most rows a b n).2.1.epoch/\(grant most rows a b n).2.2.2=0/\(grant most rows a b n).2.1.epoch=(bg rows a).epoch+1)\/
  ((grant most rows a b n).2.2.1=false/\(grant most rows a b n).1=rows/\((grant most rows a b n).2.2.2=0->(grant most rows a b n).2.1=bg rows a/\0<(bg rows a).epoch)):=by
 have h0:=(c.at a).1;unfold grant
 split
 .exact .inr ⟨rfl,rfl,λh=>by simp at h⟩
 dsimp only
 split
 .rename_i h;exact .inr ⟨rfl,rfl,λ_=>⟨rfl,h.1⟩⟩
 split
 .exact .inr ⟨rfl,rfl,λh=>by simp at h⟩
 split
 .exact .inr ⟨rfl,rfl,λh=>by simp at h⟩
 split
 .exact .inr ⟨rfl,rfl,λh=>by simp at h⟩
 .exact .inl ⟨rfl,rfl,by show 0<(bg rows a).epoch+1;omega,rfl,rfl⟩
theorem oldM_ok{s:aI}(ok:cQ s)(a:Int):MOk (gT s a)/\(gT s a).lag=s.ms.lag:=by
 unfold gT
 split
 .exact⟨ok.ms.leave a,Tk _ _⟩
 .exact⟨ok.ms,rfl⟩
theorem Tn{s:aI}{r:Rp}(ok:cQ s)(c:RLim r):cQ (fB s r).1:=by
 have i:=xk (most:=s.cfg.agents) ok.rows r.ag r.bt r.nw;have f:=grant_ok (most:=s.cfg.agents) ok.rows r.ag r.bt r.nw;have k:=oldM_ok ok r.ag;unfold fB
 split
 .exact ok
 split
 .rename_i d
  rcases i with ⟨-,g2,g3,g4,-⟩|⟨g1,_⟩
  .have h:r.ag.toNat<s.sts.length:=by rw[ok.len];have:=c.ag;omega
   have b:r.ag.toNat<s.rows.length:=by rw[ok.rows.len];have:=c.ag;omega
   refine⟨ok.cfg,c.nw,ok.boots,ok.sunk,f,k.1.join _ _,(join_lag _ _ _).trans (k.2.trans ok.lag),ok.sh,?_,λx a=>?_,λj=>?_,ok.kept⟩
   .show (s.sts.set _ _).length=64;rw[WY,ok.len]
   .rcases WX a with a|a
    .exact ok.sts x a
    .cases a;exact Tl ok.cfg
   .dsimp only;rw[g2]
    by_cases e:j=r.ag.toNat
    .subst e;rw[List.getElem?_set_self h,List.getElem?_set_self b];exact⟨λ_=>⟨_,rfl,g3⟩,λ_=>⟨_,rfl⟩⟩
    .rw [List.getElem?_set_ne (by omega),List.getElem?_set_ne (by omega)];exact ok.reg j
  .rw [g1]at d;cases d
 .rename_i d
  rcases i with ⟨g1,_⟩|⟨-,g2,_⟩
  .exact UY g1 d
  .dsimp only;rw[g2];exact ok.upd (kept:=s.kept) (sunk:=s.sunk) (boots:=s.boots) c.nw ok.ms rfl ok.sh ok.kept ok.sunk ok.boots
theorem AS{m:CM}{b:Int}{o:Ot}(h:o∈iz m b):o∈bA m:=(List.takeWhile_sublist _).subset h
theorem apply_ok{s:aI}{r:Rp}(ok:cQ s)(m:∀e∈r.evs,aF e.value):cQ (bN s r).1:=by
 unfold bN
 split
 .exact ok
 rename_i j;have j:r.right=true:=by simpa using j
 have d:=iC j
 split
 .exact ok
 rename_i c;have c:fA s r=0:=by simpa using c
 split
 .rename_i f;have hb:s.boots<1099511627776:=by
   unfold fA at c;rw[UX f]at c
   split at c
   .simp at c
   .omega
  exact ok.upd (now:=s.now) (kept:=s.kept) (sunk:=s.sunk) (boots:=s.boots+1) ok.now ok.ms rfl ok.sh ok.kept ok.sunk (by have:=ok.boots;omega)
 split
 .exact Tn ok d
 split
 .rename_i f;obtain⟨st,b⟩:=kV ok d c (.inl f);have a:=ok.sts st (VA b);unfold mM;rw[b];have k:=Tm st.ck r.sm;have i:=d.sm;unfold bP.ok at i;exact ok.setStr b i.2.2.2.1 (ok.ms.hold _ _) (hold_lag _ _ _) ok.sh ⟨ckAdd_ok a.ck r.sm,k.1.trans a.rho,k.2.trans a.least,a.hs,a.most,a.next,a.rows,a.last⟩
 split
 .rename_i f;obtain⟨st,b⟩:=kV ok d c (.inr (.inl f));exact batch_ok ok d f b m
 split
 .rename_i f;obtain⟨st,b⟩:=kV ok d c (.inr (.inr f));have a:=ok.sts st (VA b);have same:=ok.upd (now:=r.nw) (kept:=s.kept) (sunk:=s.sunk) (boots:=s.boots) d.nw ok.ms rfl ok.sh ok.kept ok.sunk ok.boots;unfold lN;rw[b];dsimp only
  split
  .exact same
  split
  .exact same
  .have:=d.st;exact ok.setStr b d.nw (ok.ms.raise _ _) (Kh _ _ _) ok.sh ⟨a.ck,a.rho,a.least,a.hs,a.most,a.next,a.rows,by show -1<=r.st/\r.st<=4611686018427387903;omega⟩
 split
 .unfold kB;exact ok.upd (sunk:=s.sunk) (boots:=s.boots) d.nw (ok.ms.tick _) (tick_lag _ _) (Tc ok.sh) (λo h=>by
   rcases Vz.1 h with h|h
   .exact ok.kept o h
   .exact xj ok.sh o (AS h)) ok.sunk ok.boots
 .unfold mN
  split
  .exact ok.upd (now:=s.now) (boots:=s.boots) ok.now ok.ms rfl ok.sh (λo h=>ok.kept o (Wh h)) d.nx.1 ok.boots
  .exact ok
def fC(c:bG):Bool:=decide c.gd.ok&&decide (1<=c.lag/\c.lag<=1099511627776)&&decide (gu c.rho/\0<=c.trust/\c.trust<=100)&&decide (1<=c.agents/\c.agents<=64)&&decide (1<=c.cells/\c.cells<=1024)&&decide (1<=c.hold/\c.hold<=256)
theorem ur{c:bG}(h:fC c=true):j9 c:=by
 unfold fC at h;simp only[Vd,Vc]at h;obtain⟨⟨⟨⟨⟨a,f⟩,i⟩,e⟩,b⟩,d⟩:=h;exact⟨a,f,i,e,b,d⟩
def bS(c:bG):aI:=⟨c,0,0,0,List.replicate 64 En.z,MS.new c.lag,[],List.replicate 64 none,[]⟩
theorem qE{c:bG}(h:j9 c):cQ (bS c) where
 cfg:=h
 now:=by show isT 0;decide
 boots:=by show (0:Int)<=0/\(0:Int)<=1099511627776;decide
 sunk:=by show (0:Int)<=0;decide
 rows:=S8
 ms:=MOk.new h.lag.1 h.lag.2
 lag:=rfl
 sh:=⟨h.cl.1,h.cl.2,by simp[bS],λp a=>UY a (by simp[bS]),λp a=>UY a (by simp[bS]),λp a=>UY a (by simp[bS]),by have:=h.cl;simp[bS];omega⟩
 len:=by simp[bS]
 sts:=λst hs=>by
  have:=Yn hs
  cases this
 reg:=λk=>by
  unfold bS;dsimp only;rw[List.getElem?_replicate,List.getElem?_replicate]
  by_cases hk:k<64
  .rw [UX hk,UX hk]
   constructor
   .rintro⟨st,h⟩;cases h
   .rintro⟨e,h,h2⟩;cases h;simp[En.z]at h2
  .rw [UW hk,UW hk]
   constructor
   .rintro⟨st,h⟩;cases h
   .rintro⟨e,h,h2⟩;cases h
 kept:=λo b=>UY b (by simp[bS])
structure AgR where
 en:En
 fl:Fl
 last:Int
 next:Int
 wait:Int
 smps:Int
def AgR.z:AgR:=⟨En.z,Fl.z,0,0,0,0⟩
abbrev encA(x:AgR):Os:=[aB x.en.epoch,aB x.en.boot,aB x.en.time,aB x.fl.t,.bool x.fl.out,.bool x.fl.was,.bool x.fl.held,aB x.last,aB x.next,aB x.wait,aB x.smps]
def kW(s:aI)(a:Int):AgR×Bool:=if 0<(bg s.rows a).epoch then (match dM s a with
 | some st=>(⟨bg s.rows a,bE s.ms a,st.last,st.hs.next,(st.hs.rows.length:Nat),(st.ck.smps.length:Nat)⟩,true)
 | none=>(AgR.z,true)) else (AgR.z,false)
section
variable {F L:List aE}{H:aC}{K KP:KE}{Q Q':aE}
def eN(p:Prop)[Decidable p]:Int:=if p then 0 else 11
theorem ut{p:Prop}[Decidable p](h:p):eN p=0:=UX h
theorem uu{p:Prop}[Decidable p](h:¬p):eN p=11:=UW h
theorem lQ(h:aA H F):aA H (emp::F):=by
 unfold aA at *;simpa[star,oE] using h
theorem MarkE{lag:Int}(h:aA H F)(k:∀p a,aA a F->K (.tuple #[.pointer p,aD (eN (1<=lag/\lag<=1099511627776))]) a):CF 181 #[aD lag] H K:=by
 refine Ma.New_spec h (λd=>?_) λc b mb rb a h=>?_
 .have:=k none H h;rw[uu (by omega)]at this;exact this
 .have:=k (some ⟨mb,0,none⟩) a h.tl.tl;rw[ut ⟨c,b⟩]at this;exact this
theorem ClockE{rho least:Int}(h:aA H F)(k:∀p a,aA a F->K (.tuple #[.pointer p,aD (eN (gu rho/\0<=least/\least<=100))]) a):CF 182 #[aD rho,aD least] H K:=by
 refine Il h (λd=>?_) λc b a h=>?_
 .have:=k none H h;rw[uu d]at this;exact this
 .have:=k (some ⟨b,0,none⟩) a h.tl;rw[ut c]at this;exact this
theorem RollE{most:Int}(h:aA H F)(k:∀p a,aA a F->K (.tuple #[.pointer p,aD (eN (1<=most/\most<=64))]) a):CF 183 #[aD most] H K:=by
 refine Ro.New_spec h (λb=>?_) λc rb mb a h=>?_
 .have:=k none H h;rw[uu (by omega)]at this;exact this
 .have:=k (some ⟨rb,0,none⟩) a h.tl.tl;rw[ut (by omega)]at this;exact this
theorem ShelfE{most:Int}(h:aA H F)(k:∀p a,aA a F->K (.tuple #[.pointer p,aD (eN (1<=most/\most<=1024))]) a):CF 184 #[aD most] H K:=by
 refine Ix h (λb=>?_) λrb mb a ok h=>?_
 .have:=k none H h;rw[uu (by omega)]at this;exact this
 .have:=k (some ⟨rb,0,none⟩) a h.tl.tl;rw[ut ⟨ok.m1,ok.m2⟩]at this;exact this
theorem HoldE{most:Int}(h:aA H F)(k:∀p a,aA a F->K (.tuple #[.pointer p,aD (eN (1<=most/\most<=256))]) a):CF 185 #[aD 0,aD most] H K:=by
 refine Av (Q:=emp) h (λc=>?_) λhb a b h=>?_
 .have:=k none H h;rw[uu (by omega)]at this;exact this
 .have:=k (some ⟨hb,0,none⟩) a h.tl;rw[ut (by omega)]at this;exact this
theorem eq138{a b c d e f:Int}:iH Tryz.prog .eql 357 (.agg #[aD a,aD b,aD c,aD d,aD e,aD f]) (.agg #[aD 0,aD 0,aD 0,aD 0,aD 0,aD 0])
  (decide (a=0)&&decide (b=0)&&decide (c=0)&&decide (d=0)&&decide (e=0)&&decide (f=0)):=by
 have h:=(yI (P:=Tryz.prog) (t:=357) (xs:=[aD a,aD b,aD c,aD d,aD e,aD f]) (ys:=[aD 0,aD 0,aD 0,aD 0,aD 0,aD 0])
  (r:=(a == 0&&(b == 0&&(c == 0&&(d == 0&&(e == 0&&(f == 0&&true))))))) (by kernel_rfl)).1
 have e:(a == 0&&(b == 0&&(c == 0&&(d == 0&&(e == 0&&(f == 0&&true))))))=(decide (a=0)&&decide (b=0)&&decide (c=0)&&decide (d=0)&&decide (e=0)&&decide (f=0)):=by
  rw[VH];simp only[Vd,beq_iff_eq,Vc,Bool.and_true]
  constructor
  .rintro⟨h1,h2,h3,h4,h5,h6⟩;exact⟨⟨⟨⟨⟨h1,h2⟩,h3⟩,h4⟩,h5⟩,h6⟩
  .rintro⟨⟨⟨⟨⟨h1,h2⟩,h3⟩,h4⟩,h5⟩,h6⟩;exact⟨h1,h2,h3,h4,h5,h6⟩
 rw[e]at h;exact h
theorem eN0(p:Prop)[Decidable p]:decide (eN p=0)=decide p:=by
 unfold eN
 by_cases h:p
 .simp [h]
 .simp [h]
theorem AT{c:bG}(h:aA H F)(k:∀d,aA d F->K (.bool (fC c)) d):CF 84 #[.agg ⟨ol c⟩] H K:=by
 refine cM 84 286331164 ?_;refine h.al λb _ h=>⟨_,h.r 0,_,h.r 0,_,h.r 0,?_⟩
 refine Ii (g:=c.gd) h λs h=>⟨_,_,_,_,rfl,?_⟩
 refine h.al λb1 _ h=>?_
 refine h.st 0 rfl rfl ?_;intro f h;refine⟨_,h.r 1,MarkE h λp1 i h=>⟨_,_,rfl,_,h.r 1,_,h.r 1,ClockE h λp2 t h=>⟨_,_,rfl,_,h.r 1,RollE h λp3 n h=>⟨_,_,rfl,_,h.r 1,ShelfE h λp4 m h=>⟨_,_,rfl,_,h.r 1,HoldE h λp5 j h=>⟨_,_,rfl,_,eq138,?_⟩⟩⟩⟩⟩⟩
 have e:fC c=(decide ((if c.gd.ok then (0:Int) else 11)=0)&&decide (eN (1<=c.lag/\c.lag<=1099511627776)=0)&&decide (eN (gu c.rho/\0<=c.trust/\c.trust<=100)=0)&&decide (eN (1<=c.agents/\c.agents<=64)=0)&&decide (eN (1<=c.cells/\c.cells<=1024)=0)&&decide (eN (1<=c.hold/\c.hold<=256)=0)):=by
  have a:=eN0 c.gd.ok;unfold eN at a;rw[a,eN0,eN0,eN0,eN0,eN0];rfl
 rw[<-e];exact k _ h.tl.tl
theorem Kk{c:bG}(h:aA H F)(k1:fC c=false->∀a,aA a F->K (.tuple #[.pointer none,aD 11]) a)(k2:fC c=true->∀sb a,aA a (stA Q sb (bS c)::F)->K (.tuple #[PA sb 0,aD 0]) a) :
  CF 102 #[.agg ⟨ol c⟩] H K:=by
 refine cM 102 487657756 ?_;refine h.al λb _ h=>⟨_,_,_,_,_,_,_,_,_,h.q 0,?_⟩
 refine AT (c:=c) h λn h=>⟨_,rfl,λd=>?_,λd=>?_⟩
 .exact k1 (by simpa using d) _ h.tl
 have f:fC c=true:=by simpa using d
 have ok:=ur f;refine⟨_,_,_,_,_,_,_,_,_,h.q 0,?_⟩;refine h.alm aD ptV λtm _ h=>?_
 refine h.al λsb _ h=>⟨_,h.r 2,_,h.r 2,_,h.r 2,?_⟩
 refine Ii (g:=c.gd) h λw h=>⟨_,_,_,_,rfl,?_⟩
 rw[UX ok.gd];refine h.st 0 rfl rfl ?_;intro m h;refine⟨_,h.r 2,Ro.New_spec h (λi=>UY ok.ag (by omega)) λ_ rb rm s h=>⟨_,_,rfl,?_⟩⟩
 refine h.st 2 rfl rfl ?_;intro x h;refine⟨_,h.r 4,Ma.New_spec h (λi=>UY ok.lag (by omega)) λ_ _ mb mm u h=>⟨_,_,rfl,?_⟩⟩
 refine h.st 4 rfl rfl ?_;intro t h;refine⟨_,h.r 6,Ix h (λi=>UY ok.cl (by omega)) λhb hm v _ h=>⟨_,_,rfl,?_⟩⟩
 refine h.st 6 rfl rfl ?_;intro k h;refine k2 f sb _ (cW.2 ⟨⟨rb,rm,mb,mm,hb,hm,tm,none,0⟩,?_⟩);have h:=(h.sl_nil 164 74).o [8,0,7,5,6,3,4,1,2] 10;have j:aA k (strmA Q tm (List.replicate 64 none)::_):=kU.2 ⟨List.replicate 64 none,by simp,by
  rw[AN];have e:cV 0 (List.replicate 64 (none:Option Nat))=[]:=by decide
  rw[e];have:=lQ h;exact this.o [1,0] 2⟩
 exact j.o [2,3,4,5,6,7,8,0,1] 9
end
end Go.Proofs.YtaaieblnikcndaaGreatDoor
