/-
  Lemmas for GateRecovers: part 7 of what it rests on. Conditions: none.
-/
import Derived.Test.YtaaieblnikcndaaGreatDoorGR6
set_option linter.unusedVariables false
set_option linter.unusedSimpArgs false
set_option maxRecDepth 100000
set_option maxHeartbeats 16000000
open Go.IntKind (i64 u64 i8 u8 i32 u32 i16 u16)
namespace Go.Proofs.YtaaieblnikcndaaGreatDoor
open Go
structure Fl where
 t:Int
 out:Bool
 was:Bool
 held:Bool
deriving DecidableEq
def Fl.z:Fl:=⟨0,false,false,false⟩
abbrev encF(x:Fl):Os:=[.int .i64 x.t,.bool x.out,.bool x.was,.bool x.held]
abbrev mP(x:Fl):Value:=.agg #[.int .i64 x.t,.bool x.out,.bool x.was,.bool x.held]
abbrev FM:=List (Int×Fl)
abbrev isT(t:Int):Prop:=0<=t/\t<=4611686018427387903
abbrev isAg(a:Int):Prop:=0<=a/\a<64
structure MS where
 lag:Int
 now:Int
 value:Int
 m:FM
deriving DecidableEq
structure MOk(s:MS):Prop where
 l1:1<=s.lag
 l2:s.lag<=1099511627776
 n:isT s.now
 v1:-s.lag<=s.value
 v2:s.value<=4611686018427387903
 nd:(aG s.m).Nodup
 rows:∀p∈s.m,isAg p.1/\isT p.2.t
def MS.new(lag:Int):MS:=⟨lag,0,-lag,[]⟩
def MS.join(s:MS)(a t:Int):MS×Int:=
 if ¬isAg a\/¬isT t then (s,11) else
 match aK a s.m with
 | some _=>(s,18)
 | none=>({ s with m:=mset a ⟨t,false,false,false⟩ s.m },0)
def MS.raise(s:MS)(a t:Int):MS×Int:=
 match aK a s.m with
 | none=>(s,19)
 | some x=>if ¬isT t then (s,11) else ({ s with m:=mset a ⟨if t>x.t then t else x.t,x.out,x.was,x.held⟩ s.m },0)
def MS.hold(s:MS)(a:Int)(b:Bool):MS×Int:=
 match aK a s.m with
 | none=>(s,19)
 | some x=>({ s with m:=mset a ⟨x.t,x.out,x.was,b⟩ s.m },0)
def MS.leave(s:MS)(a:Int):MS×Int:=
 match aK a s.m with
 | none=>(s,19)
 | some _=>({ s with m:=bU a s.m },0)
def ko(lim:Int)(x:Fl):Fl:=⟨x.t,decide (x.t<lim),x.was||decide (x.t<lim),x.held⟩
def nT(lim:Int)(s:Int×Bool)(x:Fl):Int×Bool:=
 if ¬x.t<lim/\x.held=false/\(s.2=false\/x.t<s.1) then (x.t,true) else s
def jA(lim:Int)(m:FM):List Int->Int×Bool->Int×Bool
 | [],s=>s
 | k::r,s=>jA lim m r (nT lim s ((aK k m).getD Fl.z))
abbrev maxI(a b:Int):Int:=if b>a then b else a
def MS.tick(s:MS)(now:Int):MS×Int:=
 if ¬isT now\/now<s.now then (s,11) else
 ({ s with now:=now,value:=maxI s.value (jA (now-s.lag) s.m (sortI (aG s.m)) (now-s.lag,false)).1,m:=s.m.map λp=>(p.1,ko (now-s.lag) p.2) },0)
section
variable {κ α:Type}[DecidableEq κ]
theorem JU{k:κ}{v:α}:∀{m:List (κ×α)},(aG m).Nodup->k∈aG m->(m.map λp=>if p.1=k then (k,v) else p).Perm (mset k v m)
 | [],_,h=>by simp at h
 | p::r,hn,h=>by
  simp only[aG,Wf,WW]at hn
  by_cases e:p.1=k
  .have a:k∉aG r:=by rw[<-e];exact hn.1
   have e1:(r.map λp=>if p.1=k then (k,v) else p)=r:=by
    conv=>rhs;rw[<-List.map_id r]
    apply WP;intro q b;rw[V4 (λe2=>a (by rw[<-e2];exact VH.2 ⟨q,b,rfl⟩))];rfl
   have e2:bU k (p::r)=r:=by
    have:bU k (p::r)=bU k r:=by simp[bU,Wm,e]
    rw[this,kN (fu.2 a)]
   rw[Wf,V5 e,e1];unfold mset;rw[e2]
  .have a:k∈aG r:=by
    simp only[aG,Wf,VN]at h;exact h.resolve_left (λe2=>e e2.symm)
   rw[Wf,V4 e];refine ((JU (m:=r) hn.2 a).cons p).trans ?_;unfold mset;have:bU k (p::r)=p::bU k r:=by simp[bU,Wm,e]
   rw[this];exact .swap _ _ _
theorem xk{β:Type}{f:κ->α->β}{k:κ}:∀{m:List (κ×α)},aK k (m.map λp=>(p.1,f p.1 p.2))=(aK k m).map (f k)
 | []=>rfl
 | p::r=>by
  have a:=xk (f:=f) (k:=k) (m:=r);simp only[Wf,aK]
  split
  .rename_i e;rw[<-e];rfl
  .exact a
omit [DecidableEq κ] in
theorem JV{β:Type}{f:κ->α->β}{m:List (κ×α)}:aG (m.map λp=>(p.1,f p.1 p.2))=aG m:=by simp[aG,Function.comp_def]
end
theorem JW:∀(n:Nat) (l:List Int),l.Nodup->(∀x∈l,0<=x/\x<(n:Int))->l.length<=n
 | 0,l,_,h=>by
  cases l with
  | nil=>simp
  | cons a r=>have:=h a (by simp);omega
 | n+1,l,hn,h=>by
  have d:=JW n (l.erase (n:Int)) (hn.erase _) (λx c=>by
   have b:=(hn.mem_erase_iff).1 c;have:=h x b.2;have:=b.1;omega)
  have e:l.length<=(l.erase (n:Int)).length+1:=by
   by_cases hm:(n:Int)∈l
   .rw [List.length_erase_of_mem hm];omega
   .rw [List.erase_of_not_mem hm];omega
  omega
theorem MOk.le{s:MS}(h:MOk s):s.m.length<=64:=by
 have:=JW 64 (aG s.m) h.nd (λx b=>by
  obtain⟨p,a,rfl⟩:=VH.1 b;exact (h.rows p a).1)
 simpa[aG] using this
theorem MOk.wf{s:MS}(h:MOk s):∀x∈aG s.m,aF x:=by
 intro x b;obtain⟨p,a,rfl⟩:=VH.1 b;have:=(h.rows p a).1;unfold aF;omega
theorem MOk.look{s:MS}(h:MOk s){a:Int}{x:Fl}(b:aK a s.m=some x):isAg a/\isT x.t:=h.rows _ (hI b)
theorem MOk.new{lag:Int}(c:1<=lag)(b:lag<=1099511627776):MOk (MS.new lag):=
 ⟨c,b,⟨by simp[MS.new],by simp[MS.new]⟩,Wh _,by simp only[MS.new];omega,by simp[MS.new],λp a=>by simp[MS.new]at a⟩
theorem MOk.mset{s:MS}(h:MOk s){a:Int}{x:Fl}(c:isAg a)(d:isT x.t):MOk { s with m:=mset a x s.m }:=
 ⟨h.l1,h.l2,h.n,h.v1,h.v2,oP h.nd,λp b=>by
  rcases VN.1 b with rfl|b
  .exact⟨c,d⟩
  .exact h.rows p (rC.1 b).1⟩
theorem MOk.join{s:MS}(h:MOk s)(a t:Int):MOk (s.join a t).1:=by
 unfold MS.join
 split
 .exact h
 .rename_i b
  split
  .exact h
  .exact h.mset (by omega) (by simp only;omega)
theorem MOk.raise{s:MS}(h:MOk s)(a t:Int):MOk (s.raise a t).1:=by
 unfold MS.raise
 split
 .exact h
 .rename_i x c;have b:=h.look c
  split
  .exact h
  .refine h.mset b.1 ?_;simp only
   split <;> omega
theorem MOk.hold{s:MS}(h:MOk s)(a:Int)(b:Bool):MOk (s.hold a b).1:=by
 unfold MS.hold
 split
 .exact h
 .rename_i x c;exact h.mset (h.look c).1 (h.look c).2
theorem MOk.leave{s:MS}(h:MOk s)(a:Int):MOk (s.leave a).1:=by
 unfold MS.leave
 split
 .exact h
 .exact⟨h.l1,h.l2,h.n,h.v1,h.v2,rD h.nd,λp b=>h.rows p (rC.1 b).1⟩
theorem JX{lim:Int}{m:FM}(hm:∀p∈m,isT p.2.t):∀(ks:List Int) (s:Int×Bool),(s.1<=4611686018427387903)->(jA lim m ks s).1<=4611686018427387903
 | [],s,h=>h
 | k::r,s,h=>by
  refine JX hm r _ ?_;unfold nT
  split
  .simp only
   cases hk:aK k m with
   | none=>simp[Fl.z]
   | some x=>exact (hm _ (hI hk)).2
  .exact h
theorem MOk.tick{s:MS}(h:MOk s)(now:Int):MOk (s.tick now).1:=by
 unfold MS.tick
 split
 .exact h
 .rename_i d;have:=h.l1;have:=h.v1;have:=h.v2;have c:=JX (lim:=now-s.lag) (λp a=>(h.rows p a).2) (sortI (aG s.m)) (now-s.lag,false) (by simp only;omega)
  refine⟨h.l1,h.l2,⟨by simp only;omega,by simp only;omega⟩,?_,?_,?_,λp a=>?_⟩
  .simp only[maxI];split <;> omega
  .simp only[maxI];split <;> omega
  .exact (congrArg List.Nodup (JV (f:=λ_ x=>ko (now-s.lag) x) (m:=s.m))).mpr h.nd
  .obtain⟨q,b,rfl⟩:=VH.1 a;exact h.rows q b
def mjT(lim:Int)(m:FM)(l:List Int):FM:=m.map λp=>(p.1,if p.1∈l then ko lim p.2 else p.2)
theorem mjT_nil(lim:Int)(m:FM):mjT lim m []=m:=by
 unfold mjT
 conv=>rhs;rw[<-List.map_id m]
 apply WP;intro p _;simp
theorem mjT_all{lim:Int}{m:FM}{l:List Int}(h:∀x∈aG m,x∈l):mjT lim m l=m.map λp=>(p.1,ko lim p.2):=by
 unfold mjT;apply WP;intro p a;rw[V5 (h p.1 (VH.2 ⟨p,a,rfl⟩))]
theorem JY(lim:Int)(m:FM)(l:List Int):aG (mjT lim m l)=aG m:=JV (f:=λk x=>if k∈l then ko lim x else x) (m:=m)
theorem mjT_look(lim:Int)(m:FM)(l:List Int)(k:Int):aK k (mjT lim m l)=(aK k m).map λx=>if k∈l then ko lim x else x:=xk (f:=λk x=>if k∈l then ko lim x else x) (m:=m)
theorem mjT_step{lim:Int}{m:FM}{l:List Int}{k:Int}{x:Fl}(c:(aG m).Nodup)(b:aK k m=some x):(mset k (ko lim x) (mjT lim m l)).Perm (mjT lim m (l++[k])):=by
 have a:k∈aG (mjT lim m l):=by
  rw[JY];exact VH.2 ⟨_,hI b,rfl⟩
 refine (JU (by rw[JY];exact c) a).symm.trans ?_;have:(mjT lim m l).map (λp=>if p.1=k then (k,ko lim x) else p)=mjT lim m (l++[k]):=by
  unfold mjT;rw[Wu];apply WP;intro p d;simp only[Function.comp_def,VV,VI]
  by_cases e:p.1=k
  .have h:p.2=x:=by
    have:=mo c (show (p.1,p.2)∈m from d);rw[e,b]at this;exact (Option.some.inj this).symm
   rw[V5 e,V5 (Or.inr e),h,e]
  .rw [V4 e]
   by_cases e2:p.1∈l
   .rw [V5 e2,V5 (Or.inl e2)]
   .rw [V4 e2,V4 (λf=>f.elim e2 e)]
 rw[this]
theorem JZ(lim:Int)(m:FM):∀(l r:List Int) (s:Int×Bool),jA lim m (l++r) s=jA lim m r (jA lim m l s)
 | [],_,_=>rfl
 | k::l,r,s=>JZ lim m l r _
theorem Tr{l:List Int}(h:l.Nodup):(sortI l).Nodup:=(qm l).nodup_iff.2 h
theorem Ka{l:List Int}{x:Int}:x∈sortI l↔x∈l:=(qm l).mem_iff
theorem Ts{l:List Int}(h:l.Nodup){j:Nat}(c:j<l.length):l[j]∉l.take j:=by
 intro hm;obtain⟨i,hi,b⟩:=Wz hm;rw[List.getElem_take]at b;have a:i<j:=by simp at hi;omega
 exact Yx.1 h i j _ c a b
namespace Ma
theorem mt45:lE Tryz.prog 250 2 185 mP Fl.z:=qn Tryz.underlying250 (by kernel_rfl)
theorem ko2:nB Tryz.prog 2 aB:=vP Tryz.underlying2
abbrev markC(mb rb:Nat)(s:MS):aE:=cellsA mb [aB s.lag,aB s.now,aB s.value,.map (some rb)] 252
abbrev mapF(rb:Nat)(m:FM):aE:=mapA aB mP rb m
section
variable {mb rb:Nat}{s:MS}{F:List aE}{H:aC}{K:KE}
theorem isTime_spec{t:Int}:bV Tryz.prog 231 #[aB t] H (.bool (decide (isT t))):=by
 refine cM 231 28 ⟨congrArg Value.bool ?_,rfl⟩;rw[Wp];simp[isT]
theorem Kb{a:Int}:bV Tryz.prog 230 #[aB a] H (.bool (decide (isAg a))):=by
 refine cM 230 28 ⟨congrArg Value.bool ?_,rfl⟩;rw[Wp];simp[isAg]
theorem Now_spec(h:aA H F)(i:Nat)(a:aW i F=markC mb rb s):bV Tryz.prog 50 #[.pointer (some ⟨mb,0,none⟩)] H (aB s.now):=by
 unfold bV;refine cM 50 28 ?_;exact⟨_,h.rd i a _,rfl,rfl⟩
theorem Value_spec(h:aA H F)(i:Nat)(a:aW i F=markC mb rb s):bV Tryz.prog 52 #[.pointer (some ⟨mb,0,none⟩)] H (aB s.value):=by
 unfold bV;refine cM 52 28 ?_;exact⟨_,h.rd i a _,rfl,rfl⟩
theorem New_spec{lag:Int}(h:aA H F)(k1:lag<1\/1099511627776<lag->K (.tuple #[.pointer none,aB 11]) H)
  (k2:1<=lag->lag<=1099511627776->∀mb rb b,aA b (markC mb rb (MS.new lag)::mapF rb []::F)->K (.tuple #[.pointer (some ⟨mb,0,none⟩),aB 0]) b) :
  CF 181 #[aB lag] H K:=by
 refine cM 181 476 ⟨λa=>k1 (by simpa using a),λa=>?_⟩
 have a:1<=lag/\lag<=1099511627776:=by simp at a;omega
 refine h.alm aB mP λrb _ h=>?_
 rw[aJ (x:=0-lag)];refine h.al λmb _ h=>k2 a.1 a.2 mb rb _ ?_
 have e:(0:Int)-lag=-lag:=by omega
 rw[e]at h;exact h
theorem Of_spec{a:Int}(h:aA H (markC mb rb s::mapF rb s.m::F))
  (k:∀b,aA b (markC mb rb s::mapF rb s.m::F)->K (.tuple #[mP ((aK a s.m).getD Fl.z),.bool (aK a s.m).isSome]) b) :
  CF 118 #[.pointer (some ⟨mb,0,none⟩),aB a] H K:=by
 refine cM 118 284 ?_;refine h.al λ_ _ h=>?_;refine⟨_,Ra2,?_⟩
 refine⟨_,_,_,_,_,h.mp_get mt45 ko2 2 rfl,?_⟩
 repeat (first|refine h.al λ_ _ h=>?_|refine St3 h λ_ h=>?_|refine⟨_,_,_,_,Rs3,?_⟩)
 exact k _ h.tl.tl
theorem Join_spec{a t:Int}(h:aA H (markC mb rb s::mapF rb s.m::F))
  (k:∀d,aA d (markC mb rb (s.join a t).1::mapF rb (s.join a t).1.m::F)->K (aB (s.join a t).2) d) :
  CF 146 #[.pointer (some ⟨mb,0,none⟩),aB a,aB t] H K:=by
 refine cM 146 30546716 ?_;refine⟨_,Kb,_,λ_=>isTime_spec,λb=>?_,λb=>?_⟩
 .have e:s.join a t=(s,11):=V5 (by simp only[VR,Wb,VD]at b;exact b);rw[e]at k;exact k _ h
 have f:¬(¬isAg a\/¬isT t):=by simpa using b
 refine⟨_,Ra1,?_⟩;refine⟨_,_,_,_,_,h.mp_get mt45 ko2 1 rfl,?_⟩;refine h.al λ_ _ h=>?_;refine St1 h λ_ h=>?_
 cases hl:aK a s.m with
 | some x=>
  have e:s.join a t=(s,18):=by unfold MS.join;rw[V4 f,hl]
  rw[e]at k;exact⟨λ_=>k _ h.tl,λc=>by cases c⟩
 | none=>
  have e:s.join a t=({ s with m:=mset a ⟨t,false,false,false⟩ s.m },0):=by unfold MS.join;rw[V4 f,hl]
  rw[e]at k;refine⟨λc=>(by cases c),λ_=>?_⟩
  refine⟨_,Ra2,?_⟩;exact h.mp_update (α:=Fl) (v:=⟨t,false,false,false⟩) mt45 ko2 2 rfl λd h=>k _ h.tl
theorem Leave_spec{a:Int}(h:aA H (markC mb rb s::mapF rb s.m::F))
  (k:∀c,aA c (markC mb rb (s.leave a).1::mapF rb (s.leave a).1.m::F)->K (aB (s.leave a).2) c) :
  CF 144 #[.pointer (some ⟨mb,0,none⟩),aB a] H K:=by
 refine cM 144 1186588 ?_;refine⟨_,Ra1,?_⟩;refine⟨_,_,_,_,_,h.mp_get mt45 ko2 1 rfl,?_⟩;refine h.al λ_ _ h=>?_;refine St1 h λ_ h=>?_
 cases hl:aK a s.m with
 | none=>
  have e:s.leave a=(s,19):=by unfold MS.leave;rw[hl]
  rw[e]at k;exact⟨λ_=>k _ h.tl,λb=>by cases b⟩
 | some x=>
  have e:s.leave a=({ s with m:=bU a s.m },0):=by unfold MS.leave;rw[hl]
  rw[e]at k;refine⟨λb=>(by cases b),λ_=>?_⟩
  refine⟨_,Ra2,?_⟩;exact h.mp_delete mt45 ko2 2 rfl λc h=>k _ h.tl
theorem Clone_spec(h:aA H (markC mb rb s::mapF rb s.m::F))
  (k:∀a b c,aA c (markC a b s::mapF b s.m::markC mb rb s::mapF rb s.m::F)->K (.pointer (some ⟨a,0,none⟩)) c) :
  CF 59 #[.pointer (some ⟨mb,0,none⟩)] H K:=by
 refine cM 59 4380 ?_;refine⟨_,_,_,_,h.q 0,?_⟩
 repeat (first|refine h.al λ_ _ h=>?_|refine⟨_,Ra2,?_⟩|refine St2 h λ_ h=>?_)
 refine Gh h 2 rfl λc h _=>⟨_,rfl,?_⟩
 refine h.st 1 rfl rfl λ_ h=>?_
 exact k _ _ _ (h.o [1,0,2,3] 4)
theorem AT{a:Int}{f:FuncId}{cap:Os}(c:bI f X.calls=true)(h:aA H (markC mb rb s::mapF rb s.m::F))
  (k1:aK a s.m=none->∀n,aA n (markC mb rb s::mapF rb s.m::F)->K (aB 19) n)
  (hb:∀x,aK a s.m=some x->∀b y,aA y (cellsA b (encF x) 185::markC mb rb s::mapF rb s.m::F)->
   CF f ⟨(.pointer (some ⟨b,0,none⟩))::cap⟩ y λu t=>(∃r:Int,u=aB r/\r≠0/\K (aB r) t)\/
    (u=aB 0/\∃d j,aA t (cellsA b (encF d) 185::markC mb rb s::mapF rb s.m::j)/\∀w,aA w (markC mb rb s::mapF rb (mset a d s.m)::j)->K (aB 0) w)) :
  CF 151 #[.pointer (some ⟨mb,0,none⟩),aB a,.func (.func f) #[] ⟨cap⟩] H K:=by
 refine cM 151 298982172 ?_;refine⟨_,Ra1,?_⟩;have e:=h.mp_get mt45 ko2 1 rfl (x:=a)
 cases hm:aK a s.m with
 | none=>
  rw[hm]at e;refine⟨_,_,_,_,_,e,?_⟩;refine h.al λ_ _ h=>?_;refine St1 h λ_ h=>?_
  exact⟨λ_=>k1 hm _ h.tl,λc=>by cases c⟩
 | some x=>
  rw[hm]at e;refine⟨_,_,_,_,_,e,?_⟩;refine h.al λ_ _ h=>?_;refine St1 h λ_ h=>?_
  refine⟨λc=>(by cases c),λ_=>⟨c,(hb x hm _ _ h).mono λu t B=>?_⟩⟩
  rcases B with ⟨r,rfl,A,k⟩|⟨rfl,d,j,i,k⟩
  .exact⟨r,rfl,λ_=>k,λc=>V6 (by simpa using c) A⟩
  .refine⟨0,rfl,λc=>by simp at c,λ_=>?_⟩
   refine⟨_,i.r 1,_,_,_,_,i.q 0,?_⟩;exact i.mp_update (α:=Fl) (v:=d) mt45 ko2 2 rfl λn h=>k _ h.tl
theorem Raise_spec{a t:Int}(h:aA H (markC mb rb s::mapF rb s.m::F))
  (k:∀i,aA i (markC mb rb (s.raise a t).1::mapF rb (s.raise a t).1.m::F)->K (aB (s.raise a t).2) i) :
  CF 157 #[.pointer (some ⟨mb,0,none⟩),aB a,aB t] H K:=by
 refine cM 157 28 ?_;refine h.al λc _ h=>?_
 refine AT (F:=cellsA c [aB t] 2::F) (by kernel_rfl) (h.o [1,2,0] 3) (λn i h=>⟨_,rfl,?_⟩) λx j b v h=>?_
 .have e:s.raise a t=(s,19):=by unfold MS.raise;rw[n]
  rw[e]at k;exact k _ (h.o [0,1] 3)
 refine cM 245 7452 ?_;refine⟨_,h.r 3,_,isTime_spec,λd=>?_,λd=>?_⟩
 .have f:¬isT t:=by simp only[Wb,VD]at d;exact d
  have e:s.raise a t=(s,11):=by unfold MS.raise;rw[j];exact V5 f
  rw[e]at k;exact .inl ⟨11,rfl,by decide,_,rfl,k _ (h.o [1,2] 4)⟩
 .have f:¬¬isT t:=by simpa using d
  have e:s.raise a t=({ s with m:=mset a ⟨if t>x.t then t else x.t,x.out,x.was,x.held⟩ s.m },0):=by unfold MS.raise;rw[j];exact V4 f
  rw[e]at k;refine⟨_,h.r 0,_,h.r 3,?_⟩;refine h.st 0 rfl rfl λ_ h=>.inr ⟨rfl,⟨if t>x.t then t else x.t,x.out,x.was,x.held⟩,_,h,λu h=>⟨_,rfl,?_⟩⟩
  exact k _ (h.o [0,1] 3)
theorem Hold_spec{a:Int}{v:Bool}(h:aA H (markC mb rb s::mapF rb s.m::F))
  (k:∀d,aA d (markC mb rb (s.hold a v).1::mapF rb (s.hold a v).1.m::F)->K (aB (s.hold a v).2) d) :
  CF 68 #[.pointer (some ⟨mb,0,none⟩),aB a,.bool v] H K:=by
 refine cM 68 28 ?_;refine h.al λc _ h=>?_
 refine AT (F:=cellsA c [.bool v] 4::F) (by kernel_rfl) (h.o [1,2,0] 3) (λi d h=>⟨_,rfl,?_⟩) λx f b n h=>?_
 .have e:s.hold a v=(s,19):=by unfold MS.hold;rw[i]
  rw[e]at k;exact k _ (h.o [0,1] 3)
 refine cM 152 284 ?_;have e:s.hold a v=({ s with m:=mset a ⟨x.t,x.out,x.was,v⟩ s.m },0):=by unfold MS.hold;rw[f]
 rw[e]at k;refine⟨_,h.r 3,?_⟩;refine h.st 0 rfl rfl λ_ h=>.inr ⟨rfl,⟨x.t,x.out,x.was,v⟩,_,h,λj h=>⟨_,rfl,?_⟩⟩
 exact k _ (h.o [0,1] 3)
end
section
variable {mb rb:Nat}{s:MS}{F:List aE}{H:aC}{K:KE}
theorem All_spec(h:aA H F)(k:∀c0 a,aA a (cellsA c0 [.pointer (some ⟨mb,0,none⟩)] 140::F)->K (.func (.func 295) #[] #[.pointer (some ⟨c0,0,none⟩)]) a) :
  CF 246 #[.pointer (some ⟨mb,0,none⟩)] H K:=by
 refine cM 246 28 ?_;refine h.al λ_ _ h=>?_
 exact k _ _ h
abbrev dz(s:MS):List Int:=sortI (aG s.m)
abbrev atF(s:MS)(a:Int):Fl:=(aK a s.m).getD Fl.z
theorem ks_len:(dz s).length=s.m.length:=by simp[dz,vR,aG]
theorem All1_spec{l c0:Nat}(ok:MOk s)(A:Nat->aE)(I:aE)(B:aE)
  (h:aA H (markC mb rb s::mapF rb s.m::B::cellsA c0 [.pointer (some ⟨mb,0,none⟩)] 140::F))
  (w:∀G b,aA b (markC mb rb s::mapF rb s.m::B::G)->aA b (A 0::G))
  (J:∀j (O:j<(dz s).length) (G:List aE) (y:aC) (u:KE),aA y (A j::G)->(∀e,aA e (A (j+1)::G)->u (.bool true) e)->(∀e,aA e (I::G)->u (.bool false) e)->
   fI Tryz.prog l [aB (dz s)[j],mP (atF s (dz s)[j])] y u)
  (k:∀b,aA b (A (dz s).length::cellsA c0 [.pointer (some ⟨mb,0,none⟩)] 140::F)->K (.tuple #[]) b)
  (M:∀b,aA b (I::cellsA c0 [.pointer (some ⟨mb,0,none⟩)] 140::F)->K (.tuple #[]) b) :
  CF 295 #[.func (.yield l) #[] #[],.pointer (some ⟨c0,0,none⟩)] H K:=by
 refine cN 295 0x11561239925113994 [[(15,sI)]] ?_;have L:=ok.le;have Q:(dz s).length=s.m.length:=ks_len;refine⟨_,Ra4,?_⟩;refine⟨_,Ra4,?_⟩;refine Gh h 1 rfl λy P _=>⟨_,rfl,?_⟩
 refine Pr ⟨_,_,rfl,?_⟩;refine Ps P 0 rfl ok.wf (by omega) λa c e n _=>⟨_,_,_,rfl,?_⟩
 have n:=w _ _ (n.o [2,3,4,0,1] 5);refine⟨λt b=>∃j:Nat,t=j/\j<=(dz s).length/\aA b (A j::slA 2 1 a s.m.length c ((dz s).map aB)::mapF H.size s.m::cellsA c0 [.pointer (some ⟨mb,0,none⟩)] 140::F),
  λt _=>(dz s).length-t.toNat,⟨0,rfl,Wd _,n⟩,?_⟩
 rintro t N ⟨j,rfl,O,i⟩;refine⟨λv=>?_,λv=>?_⟩
 .have d:j<(dz s).length:=by have:=V8 v;omega
  have f:=(i.sl_rd 1 rfl).at d;have E:=i.mp_get1 mt45 ko2 2 rfl (x:=(dz s)[j]);refine⟨⟨by omega,by omega⟩,_,_,f.1,_,f.2,_,_,_,_,E,?_⟩;refine J j d _ N _ i (λR D=>⟨true,rfl,λC=>(by cases C),λ_=>?_⟩) λR D=>⟨false,rfl,λ_=>?_,λC=>(by cases C)⟩
  .conv=>whnf
   rw[aJ];exact⟨⟨j+1,rfl,d,D⟩,by simp only[VJ];omega⟩
  .exact M _ (D.o [0,3] 4)
 .obtain rfl:j=(dz s).length:=by have:=V9 v;omega
  exact k _ (i.o [0,3] 4)
theorem Tt{b c0 c1 c2 c3:Nat}{x:Fl}{now least:Int}{a:Bool}(j:1<=s.lag/\s.lag<=1099511627776)(n:isT now)
  (h:aA H (cellsA b (encF x) 185::markC mb rb s::cellsA c0 [aB now] 2::cellsA c1 [.pointer (some ⟨mb,0,none⟩)] 140::cellsA c2 [.bool a] 4::cellsA c3 [aB least] 2::F))
  (k:∀f,aA f (cellsA b (encF (ko (now-s.lag) x)) 185::markC mb rb s::cellsA c0 [aB now] 2::cellsA c1 [.pointer (some ⟨mb,0,none⟩)] 140::cellsA c2 [.bool (nT (now-s.lag) (least,a) x).2] 4::cellsA c3 [aB (nT (now-s.lag) (least,a) x).1] 2::F)->K (aB 0) f) :
  CF 247 #[.pointer (some ⟨b,0,none⟩),.pointer (some ⟨c0,0,none⟩),.pointer (some ⟨c1,0,none⟩),.pointer (some ⟨c2,0,none⟩),.pointer (some ⟨c3,0,none⟩)] H K:=by
 refine OF ?_;refine⟨_,h.r 0,_,h.r 2,_,h.r 3,cZ ⟨_,h.r 1,?_⟩⟩;dsimp only;rw[aJ (x:=now-s.lag)];refine h.st 0 rfl rfl λ_ h=>?_
 refine⟨_,h.r 0,λ_=>trivial,_,λ_=>h.r 0,?_⟩
 refine h.st 0 rfl rfl λ_ h=>?_
 refine⟨_,h.r 0,λ_=>trivial,_,λ_=>h.r 0,_,λ_=>h.r 4,λ_=>trivial,_,λ_=>h.r 0,_,λ_=>h.r 5,?_⟩
 intro m i;refine⟨λc=>?_,λc=>?_⟩
 .have e:nT (now-s.lag) (least,a) x=(x.t,true):=V5 (by
   simp only[VB,VR,Wb,VD,VA]at c;exact⟨c.1.1,c.1.2,c.2⟩)
  rw[e]at k;refine⟨_,h.r 0,?_⟩;refine h.st 5 rfl rfl λ_ h=>h.st 4 rfl rfl λ_ h=>i _ ?_
  exact k _ h
 .have e:nT (now-s.lag) (least,a) x=(least,a):=V4 (λd=>by
   rw[<-Bool.not_eq_true]at c;apply c;simp only[VB,VR,Wb,VD,VA];exact⟨⟨d.1,d.2.1⟩,d.2.2⟩)
  rw[e]at k;exact i _ (k _ h)
def tkA(mb rb b b1 lb fb l:Nat)(R:Loop)(s:MS)(now:Int)(j:Nat):aE:=
 star [markC mb rb { s with now:=now },mapF rb (mjT (now-s.lag) s.m ((dz s).take j)),cellsA b [.pointer (some ⟨mb,0,none⟩)] 140,cellsA b1 [aB now] 2,
  cellsA lb [aB (jA (now-s.lag) s.m ((dz s).take j) (now-s.lag,false)).1] 2,cellsA fb [.bool (jA (now-s.lag) s.m ((dz s).take j) (now-s.lag,false)).2] 4,pt l (.loop R)]
theorem Tu{b b1 e fb j:Nat}{now:Int}{n v:aC}{R:Loop}{G:List aE}{u:KE}(ok:MOk s)(D:isT now)(i:j<(dz s).length)
  (h:aA v (tkA mb rb b b1 e fb (n.size+1) R s now j::G)) (C:∀w,aA w (tkA mb rb b b1 e fb (n.size+1) R s now (j+1)::G)->u (.bool true) w) :
  zf.y1 b b1 e 0 fb 0 n R [aB (dz s)[j],mP (atF s (dz s)[j])] v u:=by
 have h:=h.open;unfold zf.y1;refine⟨_,_,_,_,_,rfl,h.getO 6 rfl,h.getO 6 rfl,h.stl 6 rfl λI h=>⟨_,h.r 2,?_⟩⟩
 obtain⟨x,k⟩:∃x,aK (dz s)[j] s.m=some x:=by
  cases hm:aK (dz s)[j] s.m with
  | some x=>exact⟨x,rfl⟩
  | none=>exact V6 (Ka.1 (VL i)) (fu.1 hm)
 have t:=Ts (Tr ok.nd) i;have c:aK (dz s)[j] (mjT (now-s.lag) s.m ((dz s).take j))=some x:=by rw[mjT_look,k];simp[t]
 have B:(dz s).take (j+1)=(dz s).take j++[(dz s)[j]]:=Wn i;refine AT (s:={ s with now:=now,m:=mjT (now-s.lag) s.m ((dz s).take j) }) (f:=247) (by kernel_rfl) h (λa=>by rw[c]at a;cases a) λy d bb H h=>?_
 obtain rfl:x=y:=by rw[c]at d;exact Option.some.inj d
 refine Tt (s:={ s with now:=now }) ⟨ok.l1,ok.l2⟩ D (h.o [0,1,4,3,6,5,2,7] 8) λF h=>.inr ⟨rfl,ko (now-s.lag) x,_,h.o [0,1,6,2,3,4,5,7] 8,λE h=>⟨_,rfl,?_⟩⟩
 refine⟨h.getO 6 rfl,C _ ?_⟩;have h:=h.setO 6 rfl (.loop R);unfold tkA;refine aA.shut [_,_,_,_,_,_,_] ?_;have em:mapF rb (mset (dz s)[j] (ko (now-s.lag) x) (mjT (now-s.lag) s.m ((dz s).take j)))=mapF rb (mjT (now-s.lag) s.m ((dz s).take j++[(dz s)[j]])):=nC (mjT_step ok.nd k);rw[B,JZ,<-em];have A:jA (now-s.lag) s.m [(dz s)[j]] (jA (now-s.lag) s.m ((dz s).take j) (now-s.lag,false))=nT (now-s.lag) (jA (now-s.lag) s.m ((dz s).take j) (now-s.lag,false)) x:=by
  show nT _ _ ((aK _ s.m).getD Fl.z)=_;rw[k];rfl
 rw[A];exact h.o [0,1,3,2,5,4,6] 7
theorem Tick_spec{now:Int}(ok:MOk s)(h:aA H (markC mb rb s::mapF rb s.m::F))
  (k:∀c,aA c (markC mb rb (s.tick now).1::mapF rb (s.tick now).1.m::F)->K (aB (s.tick now).2) c) :
  CF 158 #[.pointer (some ⟨mb,0,none⟩),aB now] H K:=by
 refine OO ?_;refine h.al λb _ h=>h.al λb1 _ h=>?_
 refine⟨_,h.r 0,_,isTime_spec,_,λ_=>h.r 0,_,λ_=>h.rd (1) rfl _,λ_=>trivial,_,λ_=>h.r 2,λd=>?_,λd=>?_⟩
 .have e:s.tick now=(s,11):=V5 (by simp only[VR,Wb,VD,VA]at d;exact d);rw[e]at k;exact k _ h.tl.tl
 have f:¬(¬isT now\/now<s.now):=by
  simp only[VP,Wq,VD,VA]at d;exact λN=>N.elim (λu=>u d.1) d.2
 have w:isT now:=by
  rcases Classical.em (isT now) with h|h
  .exact h
  .exact V6 (Or.inl h) f
 have e:s.tick now=({ s with now:=now,value:=maxI s.value (jA (now-s.lag) s.m (sortI (aG s.m)) (now-s.lag,false)).1,m:=s.m.map λp=>(p.1,ko (now-s.lag) p.2) },0):=V4 f
 rw[e]at k;have C:=ok.l1;have L:=ok.l2;refine⟨_,h.r 1,_,h.r 0,cZ (h.st 2 rfl rfl λ_ h=>?_)⟩
 intro B y;have fin:∀a fb c,aA c (cellsA b1 [aB now] 2::cellsA b [.pointer (some ⟨mb,0,none⟩)] 140::cellsA a [aB (now-s.lag)] 2::cellsA fb [.bool false] 4::markC mb rb { s with now:=now }::mapF rb s.m::F)->B a 0 fb 0 c:=by
  intro a fb c h;refine y _ _ _ _ _ ?_;refine⟨_,h.r 1,All_spec h λc0 v h=>⟨_,_,rfl,rfl,λR i n D=>?_⟩⟩
  have h:=h.rng R;have h:aA _ (markC mb rb { s with now:=now }::mapF rb s.m::star [cellsA b [.pointer (some ⟨mb,0,none⟩)] 140,cellsA b1 [aB now] 2,cellsA a [aB (now-s.lag)] 2,cellsA fb [.bool false] 4,pt (v.size+1) (.loop R)]::cellsA c0 [.pointer (some ⟨mb,0,none⟩)] 140::pt v.size (.deferred (some []))::F):=
   (aA.shut [_,_,_,_,_] (h.o [4,3,5,6,0,7,8,2,1] 9)).o [1,2,0] 3
  refine All1_spec (s:={ s with now:=now }) ⟨ok.l1,ok.l2,w,ok.v1,ok.v2,ok.nd,ok.rows⟩ (λj=>tkA mb rb b b1 a fb (v.size+1) R s now j) (pur False) _ h (λG c h=>?_)
   (λj I G P O u M _=>D _ _ _ (Tu ok w I u M)) (λE t=>?_) (λE t=>(aA.consP t).1.elim)
  .unfold tkA;rw[Yi,mjT_nil];refine aA.shut [_,_,_,_,_,_,_] ?_;exact ((h.o [2,0,1] 3).open).o [5,6,0,1,2,3,4] 7
  .have h:=aA.open (A:=[_,_,_,_,_,_,_]) t;have e1:(dz { s with now:=now }).length=(dz s).length:=rfl;rw[e1,Wc (VF _),mjT_all (λx J=>Ka.2 J)]at h
   refine⟨.ready,none,by decide,by rw[nD i n];exact h.getO 6 rfl,h.stl 6 rfl λQ h=>⟨rfl,?_⟩⟩
   refine⟨_,h.r 2,_,h.r 2,cZ ⟨_,h.r 0,_,h.r 4,cZ (h.st 0 rfl rfl λ_ h=>⟨h.getO 8 rfl,?_⟩)⟩⟩
   have h:=h.setO 8 rfl (.deferred none);exact k _ (h.o [0,1] 9)
 refine⟨_,h.r 0,_,h.r 1,cZ ⟨_,h.r 2,?_⟩⟩;dsimp only;rw[aJ (x:=now-s.lag)];refine⟨h.al λa _ h=>⟨h.r 3,h.r 2,h.r 1,h.al λfb _ h=>⟨h.r 4,h.r 3,h.r 2,h.st 1 rfl rfl λ_ h=>h.st 0 rfl rfl λ_ h=>?_⟩⟩,
  h.al λfb _ h=>⟨h.r 3,h.r 2,h.r 1,h.al λa _ h=>⟨h.r 4,h.r 3,h.r 2,h.st 0 rfl rfl λ_ h=>h.st 1 rfl rfl λ_ h=>?_⟩⟩⟩
 .exact fin a fb _ (h.o [2,3,1,0] 4)
 .exact fin a fb _ (h.o [2,3,0,1] 4)
end
section
variable {mb rb sb:Nat}{s:MS}{F:List aE}{H:aC}{K:KE}
theorem Set_spec{ag:FM}{ab:Nat}{now value:Int}(D:isT now)(J:1<=s.lag/\s.lag<=1099511627776)(G:now-s.lag<=value/\value<=now)(B:∀p∈ag,isAg p.1/\isT p.2.t)
  (h:aA H (markC mb rb s::mapF rb s.m::mapF ab ag::F))
  (k:∀e c,aA c (markC mb e ⟨s.lag,now,value,ag⟩::mapF e ag::mapF ab ag::F)->K (aB 0) c) :
  CF 204 #[.pointer (some ⟨mb,0,none⟩),aB now,aB value,.map (some ab)] H K:=by
 refine cN 204 0x1d121561239951d41c [[]] ?_;have e1:i64.wrap (now-s.lag)=now-s.lag:=aJ;refine⟨_,isTime_spec,λ_=>trivial,_,λ_=>h.r 0,?_⟩
 dsimp only
 conv=>whnf
 rw[e1,VS D,Ws (show ¬value<now-s.lag by omega),Ws (show ¬now<value by omega)];refine⟨λa=>(by cases a),λ_=>?_⟩
 refine h.alm aB mP λb _ h=>?_
 refine h.rg_new mt45 3 rfl λi E h=>⟨i,rfl,?_⟩
 refine⟨λc=>∃dn:FM,aA c (mapF b dn::markC mb rb s::mapF rb s.m::kO aB mP i ab ag dn::F),λc=>ag.length-oR c i,⟨[],h⟩,?_⟩
 rintro L ⟨dn,h⟩;obtain⟨y,A⟩:=h.rg_count 3 rfl;refine h.rg_next 3 rfl (λC=>Or.inl ⟨rfl,λa=>(by cases a),λ_=>?_⟩) λp n j I h=>Or.inr ⟨_,_,rfl,λ_=>?_,λa=>(by cases a)⟩
 .have h:=h.rg_map 3 rfl;refine h.st 1 rfl rfl λ_ h=>h.st 1 rfl rfl λ_ h=>h.st 1 rfl rfl λ_ h=>k b _ ?_
  have em:mapF b dn=mapF b ag:=nC C;have h:=h.o [1,0,3] 4;simp only[ordT,aW,rz,put,em]at h;exact h
 .have f:=aA.rg_entry (P:=Tryz.prog) h 3 rfl;obtain⟨w,d⟩:=h.rg_count 3 rfl;rw[V7,Wv]at w d;refine⟨_,_,_,_,_,f,?_⟩;refine h.al λb2 _ h=>?_
  refine h.st 0 rfl rfl λ_ h=>?_
  have x:=B p n;refine⟨_,Kb,_,λ_=>h.r 0,_,λ_=>isTime_spec,?_⟩
  rw[VS x.1,VS x.2];refine⟨λa=>(by cases a),λ_=>⟨_,_,_,_,h.q 0,?_⟩⟩
  refine h.mp_update (α:=Fl) (v:=p.2) mt45 ko2 1 rfl λM h=>⟨⟨dn++[p],?_⟩,?_⟩
  .have em:mapF b (mset p.1 p.2 dn)=mapF b (dn++[p]):=nC (by
    unfold mset;rw[kN (fu.2 j)];exact (List.perm_append_singleton p dn).symm)
   have h:=h.tl;simp only[put,em]at h;exact h
  .obtain⟨u,_⟩:=h.rg_count 4 rfl;rw[V7,Wv]at u;simp only;omega
end
end Ma
theorem Tv{P:Program}{t e:TypeId}{n:Nat}{f:Nat->Int}{i:Int}(b:P.underlying t=some (.array n e))(d:∀w,(Go.sizeOf e).run P w=.ok 1 w)(c:∀w,(Go.isAgg e).run P w=.ok false w)(h0:0<=i)(h:i<n) :
  me P (Instr.index t (.agg ⟨bX .u64 f n 0⟩) (aB i)) (.int .u64 (f i.toNat)):=by
 intro w;have a:=uh .u64 f n 0 i.toNat (by omega);rw[fL]at a;simp only[Instr.index,asIntOf,Sem.run_bind,Sem.run_pure,Result.andThen_ok,fq b];rw[V5 ⟨h0,h⟩];simp only[Sem.run_bind,d,Result.andThen_ok,W2,part,c];simp[a]
def mQ:Nat->RS->List (Nat×Nat)×RS
 | 0,s=>([],s)
 | n+1,s=>(((bM s).1,(bM (bM s).2).1)::(mQ n (bM (bM s).2).2).1,(mQ n (bM (bM s).2).2).2)
def pA(prev:Option Nat)(p:Nat):Bool:=match prev with|some x=>decide (p<=x)|none=>false
def mR:List (Nat×Nat)->Option Nat->(Nat->Int)->Option (Nat->Int)
 | [],_,h=>some h
 | (p,q)::r,prev,h=>if pA prev p=true\/65<=p then none else if q=0\/9223372036854775807<q then none else mR r (some p) (eX h p q)
def qH(ps:List (Nat×Nat))(q:Nat):Option Nat:=if q=0 then none else some (ps.getD (q-1) (0,0)).1
def sE(n0 n1 n2:Nat)(lo hi:Int)(t:List Int)(ps:List (Nat×Nat)):Cl×Int:=
 if 9223372036854775807<n0\/9223372036854775807<n1\/9223372036854775807<n2 then (Cl.z,10) else
 if t.length≠16 then (Cl.z,10) else
 match mR ps none Z0 with
 | none=>(Cl.z,10)
 | some h=>if ge ⟨n0,jp t,lo,hi,n1,n2,h⟩ then (⟨n0,jp t,lo,hi,n1,n2,h⟩,0) else (Cl.z,10)
def kr(bs:List Int):Cl×Int:=
 let a:=bM ⟨0,bs⟩
 let b:=bM a.2
 let c:=bM b.2
 let lo:=dE c.2
 let hi:=dE lo.2
 let t:=aZ 16 hi.2
 let n:=bY 65 t.2
 let p:=mQ n.1.toNat n.2
 if (dF p.2).e≠0 then (Cl.z,(dF p.2).e) else sE a.1 b.1 c.1 lo.1 hi.1 t.1 p.1
theorem xl{s:RS}(h:aI s.bs):aI (dE s).2.bs:=gK h
theorem Kc(s:RS):(dE s).2.bs.length<=s.bs.length:=jQ s
theorem Kd:∀{l:List (Nat×Nat)} {a:Option Nat} {h g:Nat->Int},wfH h->mR l a h=some g->wfH g
 | [],_,h,g,hw,e=>by cases e;exact hw
 | (p,q)::r,a,h,g,hw,e=>by
  unfold mR at e
  split at e
  .cases e
  .split at e
   .cases e
   .rename_i c b;refine Kd (l:=r) ?_ e;intro i hi;unfold eX
    split
    .unfold aF;omega
    .exact hw i hi
theorem Tw{n0 n1 n2:Nat}{lo hi:Int}{t:List Int}{ps:List (Nat×Nat)}(hb:aI t)(b:aF lo)(a:aF hi):WC (sE n0 n1 n2 lo hi t ps).1:=by
 unfold sE
 split
 .exact WC.z
 .split
  .exact WC.z
  .split
   .exact WC.z
   .rename_i d _ g c
    split
    .exact⟨by unfold aF;dsimp only;omega,IW t hb,b,a,by unfold aF;dsimp only;omega,by unfold aF;dsimp only;omega,Kd ui c⟩
    .exact WC.z
theorem Tx{bs:List Int}(hb:aI bs):WC (kr bs).1:=by
 unfold kr;dsimp only
 split
 .exact WC.z
 .exact Tw (lK (xl (xl (gK (gK (gK (s:=⟨0,bs⟩) hb)))))).2 (rT _) (rT _)
theorem Ty{bs:List Int}(h:(kr bs).2=0):ge (kr bs).1=true:=by
 unfold kr at h ⊢;dsimp only at h ⊢
 split
 .rename_i a;rw[V5 a]at h;exact V6 h a
 .rename_i a;rw[V4 a]at h;unfold sE at h ⊢
  split
  .rename_i d;rw[V5 d]at h;cases h
  .rename_i d;rw[V4 d]at h
   split
   .rename_i b;rw[V5 b]at h;cases h
   .rename_i b;rw[V4 b]at h
    split
    .rename_i c;rw[c]at h;cases h
    .rename_i g c;rw[c]at h;dsimp only at h
     split
     .assumption
     .rename_i e;rw[V4 e]at h;cases h
theorem AU{s:RS}{m:Int}(h:aI s.bs)(hm:0<=m):0<=(bY m s).1/\(bY m s).1<=m:=by
 unfold bY
 split
 .exact⟨Wh _,hm⟩
 .split
  .split
   .exact⟨Wh _,hm⟩
   .simp only[]at *;omega
  .exact⟨Wh _,hm⟩
  .exact⟨Wh _,hm⟩
theorem sl279:SlT Tryz.prog 487 488 2 16:=iu (by kernel_rfl)
abbrev encP(p:Nat×Nat):Os:=[U64 p.1,U64 p.2]
theorem xm(p:Nat×Nat):(encP p).length=2:=rfl
def f3(a b c:Nat):Nat->Int:=λi=>match i with|0=>(a:Int)|1=>(b:Int)|_=>(c:Int)
section
variable {F L:List aE}{H:aC}{K:KE}
theorem idx278{a b c:Nat}{i:Int}(h0:0<=i)(d:i<3):me Tryz.prog (Instr.index 486 (.agg #[U64 a,U64 b,U64 c]) (aD i)) (.int .u64 (f3 a b c i.toNat)):=
 Tv (f:=f3 a b c) (n:=3) Tryz.underlying486 Tryz.sizeOf56 Tryz.isAgg56 h0 (by omega)
theorem Tz{a:KQ}{c n:Nat}{bs:List Int}(hn:bs.length=n)(hb:aI bs)(h:aA H F)(ha:∀H,aA H F->aP H a (bs.map U8))(hl:n<=1000000000)
  (k:∀D,aA D F->K (.tuple #[aggC (kr bs).1,aD (kr bs).2]) D):CF 263 #[.slice a n c] H K:=by
 subst hn;refine OC ?_;unfold kr at k;dsimp only at k;refine h.al λb _ h=>?_
 refine rQ (bs:=bs) h (λH h=>ha H h.tl) (by omega) λrb H1 h=>⟨_,rfl,?_⟩
 have R:aI (⟨0,bs⟩:RS).bs:=hb;have r9:(⟨0,bs⟩:RS).bs.length<=1000000000:=hl;refine nL h R (by omega) λH2 h=>⟨_,rfl,?_⟩
 have T:=gK R;have y3:=jQ (⟨0,bs⟩:RS);generalize bM ⟨0,bs⟩=r1 at *;refine nL h T (by omega) λH3 h=>⟨_,rfl,?_⟩
 have M:=gK T;have hL2:=jQ r1.2;generalize bM r1.2=r2 at *;refine nL h M (by omega) λH4 h=>⟨_,rfl,?_⟩
 have U:=gK M;have hL3:=jQ r2.2;generalize bM r2.2=r3 at *;refine h.al λb1 _ h=>?_
 refine h.sta 0 rfl rfl λH6 h=>?_
 have h:=h.o [1,0] 2;refine wu h U (by omega) λH7 h=>⟨_,rfl,?_⟩
 have S:=xl U;have y2:=Kc r3.2;have Z:aF (dE r3.2).1:=rT _;generalize dE r3.2=r4 at *;refine wu h S (by omega) λH8 h=>⟨_,rfl,?_⟩
 have P:=xl S;have hL5:=Kc r4.2;have j3:aF (dE r4.2).1:=rT _;generalize dE r4.2=r5 at *;refine nK (most:=16) h P (by omega) (by decide) λH9 h=>⟨_,rfl,?_⟩
 have v:=(lK (m:=16) P);have hL6:=(mD r5.2 16);generalize aZ 16 r5.2=r6 at *;refine tQ (most:=65) h v.1 (by omega) (by decide) λr0 h=>⟨_,rfl,?_⟩
 have j1:=rU (m:=65) v.1;have hL7:=rV r6.2 65;have h5:=AU (m:=65) v.1 (by decide);generalize bY 65 r6.2=r7 at *;refine⟨λpa pn pc i D=>∃(j:Nat) (d:List (Nat×Nat)) (s:RS),i=j/\(j:Int)<=r7.1/\pn=d.length/\d.length=j/\aI s.bs/\s.bs.length<=1000000000/\
   mQ r7.1.toNat r7.2=(d++(mQ (r7.1.toNat-j) s).1,(mQ (r7.1.toNat-j) s).2)/\
   aA D (crdA rb s::slA 488 2 pa d.length pc (flat encP d)::cellsA b1 [U64 r1.1,U64 r2.1,U64 r3.1] 486::cellsA b (dx Cl.z) 161::F),
  λ_ _ _ i _=>(r7.1-i).toNat,⟨0,[],r7.2,rfl,h5.1,rfl,rfl,j1,by omega,rfl,?_⟩,?_⟩
 .exact ((h.sl_nil 488 2).o [1,0] 2)
 rintro pa pn pc i H11 ⟨j,d,s,rfl,hj,rfl,h6,w,r8,e,h⟩;refine⟨λhc=>?_,λhc=>?_⟩
 .have f:=V8 hc;have hu1:=wr w;have hu2:=wr (gK w);refine nL h w (by omega) λH12 h=>⟨_,rfl,?_⟩
  have hl1:=jQ s;refine nL h (gK w) (by omega) λH13 h=>⟨_,rfl,?_⟩
  have hl2:=jQ (bM s).2;rintro b2 _ rfl rfl;refine h.append1 (ws:=encP ((bM s).1,(bM (bM s).2).1)) sl279 1 rfl rfl rfl (by omega) (by omega) λa' c' H15 h=>⟨_,_,_,rfl,?_⟩
  rw[show i64.wrap ((j:Int)+1)=((j+1:Nat):Int) by rw[aJ];omega];refine⟨⟨j+1,d++[((bM s).1,(bM (bM s).2).1)],(bM (bM s).2).2,rfl,by omega,by simp,by simp[h6],gK (gK w),by omega,?_,?_⟩,?_⟩
  .rw [e,show r7.1.toNat-j=(r7.1.toNat-(j+1))+1 by omega,mQ,VK];rfl
  .rw [dS,nA,V7];exact h
  .show (r7.1-((j+1:Nat):Int)).toNat<(r7.1-(j:Int)).toNat
   omega
 .have hge:=V9 hc;have l0:r7.1.toNat-j=0:=by omega
  rw[l0,mQ,We]at e;rw[e]at k;dsimp only at k;refine wv h λH16 h=>⟨_,rfl,λhe=>?_,λhe=>?_⟩
  .rw [V5 (by simpa using he)]at k;refine h.sta 3 rfl rfl λu h=>⟨_,_,_,_,_,_,_,_,h.rda 3 rfl,k _ h.tl.tl.tl.tl⟩
  rw[V4 (by simpa using he)]at k;unfold sE at k;refine⟨_,_,_,h.rda 2 rfl,?_⟩;have h:=h.tl;refine⟨λi D=>∃t:Nat,i=t/\t<=3/\(∀q,q<t->f3 r1.1 r2.1 r3.1 q<=9223372036854775807)/\aA D (slA 488 2 pa d.length pc (flat encP d)::cellsA b1 [U64 r1.1,U64 r2.1,U64 r3.1] 486::cellsA b (dx Cl.z) 161::F),λi _=>3-i.toNat,⟨0,rfl,by omega,λ_ h=>by omega,h⟩,?_⟩
  rintro i H18 ⟨t,rfl,ht,V,h⟩;refine⟨λJ=>?_,λJ=>?_⟩
  .have f:t<3:=by have:=V8 J;omega
   refine⟨_,idx278 (by omega) (by omega),?_⟩;rw[VJ];refine⟨λy=>?_,λy=>?_⟩
   .have y:=V8 y;have:9223372036854775807<r1.1\/9223372036854775807<r2.1\/9223372036854775807<r3.1:=by
     unfold f3 at y
     split at y <;> omega
    rw[V5 this]at k;refine h.sta 2 rfl rfl λu h=>⟨_,_,_,_,_,_,_,_,h.rda 2 rfl,k _ h.tl.tl.tl⟩
   .have y:=V9 y;rw[show i64.wrap ((t:Int)+1)=((t+1:Nat):Int) by rw[aJ];omega];refine⟨⟨t+1,rfl,f,λq h2=>?_,h⟩,by simp only[VJ];omega⟩
    rcases Wa q t with h1|h1
    .exact V q h1
    .obtain rfl:q=t:=by omega
     omega
  .have:t=3:=by have:=V9 J;omega
   subst this;have g0:(r1.1:Int)<=9223372036854775807:=V 0 (by decide);have g1:(r2.1:Int)<=9223372036854775807:=V 1 (by decide);have g2:(r3.1:Int)<=9223372036854775807:=V 2 (by decide);rw[nO]at k;refine⟨by decide,_,h.r 1,by decide,_,h.r 1,by decide,_,h.r 1,?_⟩;dsimp only;rw[aJ (x:=(r1.1:Int)) (by omega) g0,aJ (x:=(r2.1:Int)) (by omega) g1,aJ (x:=(r3.1:Int)) (by omega) g2];refine h.al λb3 _ h=>?_
   refine h.sta 0 rfl (by rw[V7,se,V7,se];rfl) λH21 h=>?_
   refine h.st 0 rfl rfl λH22 h=>?_
   refine h.st 0 rfl rfl λW h=>?_
   have h:aA W (cellsA b3 (dx ⟨r1.1,0,r4.1,r5.1,r2.1,r3.1,Z0⟩) 161::slA 488 2 pa d.length pc (flat encP d)::cellsA b1 [U64 r1.1,U64 r2.1,U64 r3.1] 486::cellsA b (dx Cl.z) 161::F):=h;refine wp v.2 h λa' c' H24 h=>⟨_,_,_,rfl,?_⟩
   refine Sx (bs:=r6.1) rfl v.2 h (λH h=>h.sl_rd 0 rfl) (by omega) (λG j2 h=>⟨_,_,_,rfl,?_⟩) (λG j2 h=>⟨_,_,_,rfl,?_⟩)
   .rw [V5 G]at k;refine h.al λb4 _ h=>?_
    refine h.sta 0 rfl rfl λh8 h=>⟨λ_=>?_,λhf=>by cases hf⟩
    refine h.sta 5 rfl rfl λu h=>⟨_,_,_,_,_,_,_,_,h.rda 5 rfl,k _ h.tl.tl.tl.tl.tl.tl⟩
   .rw [V4 (λhh=>hh G)]at k
    refine h.al λb4 _ h=>?_
    refine h.sta 0 rfl rfl λh8 h=>⟨λhf=>(by cases hf),λ_=>?_⟩
    refine⟨_,_,h.rda 0 rfl,?_⟩;refine h.st 2 rfl rfl λh4 h=>?_
    have h:aA h4 (cellsA b4 [aD (cw (jp r6.1)),.int .u64 (wlo (jp r6.1))] 157::slA 5 1 a' r6.1.length c' (r6.1.map U8)::cellsA b3 (dx ⟨r1.1,jp r6.1,r4.1,r5.1,r2.1,r3.1,Z0⟩) 161::slA 488 2 pa d.length pc (flat encP d)::cellsA b1 [U64 r1.1,U64 r2.1,U64 r3.1] 486::cellsA b (dx Cl.z) 161::F):=h;have h:=h.o [2,3,5] 6;refine⟨λi D=>∃(q:Nat) (g:Nat->Int),i=q/\q<=d.length/\wfH g/\mR d none Z0=mR (d.drop q) (qH d q) g/\aA D (cellsA b3 (dx ⟨r1.1,jp r6.1,r4.1,r5.1,r2.1,r3.1,g⟩) 161::slA 488 2 pa d.length pc (flat encP d)::cellsA b (dx Cl.z) 161::F),λi _=>d.length-i.toNat,
     ⟨0,Z0,rfl,Wd _,ui,rfl,h⟩,?_⟩
    rintro i H30 ⟨q,g,rfl,h2,y,e2,h⟩;refine⟨λE=>?_,λE=>?_⟩
    .have f:q<d.length:=by have:=V8 E;omega
     have A:=h.sl_rd 1 rfl;rw[Wx f,mR]at e2;refine⟨⟨by omega,by omega⟩,_,_,A.some xm (by omega) f,_,_,A.els xm f,?_⟩;refine h.al λb6 _ h=>?_
     refine h.sta 0 rfl rfl λl5 h=>?_
     have A:=h.sl_rd 2 rfl;have I:((decide (0<(q:Int)))=true)->aL l5 (aV pa) (aS pa+(i64.wrap ((q:Int)-1)).toNat*2+0)=some (.int .u64 ((d.getD (q-1) (0,0)).1:Nat)):=by
      intro h0;have h0:=V8 h0;rw[aJ (x:=(q:Int)-1),show ((q:Int)-1).toNat=q-1 by omega];have Q:q-1<d.length:=by omega
      have:=(A.els xm Q).1;rw[Yp,List.getElem?_eq_getElem Q];exact this
     refine⟨λ_=>by decide,_,λ_=>h.r 0,λh0=>by have h0:=V8 h0;rw[aJ (x:=(q:Int)-1)];omega,_,_,λ_=>A.some xm (by omega) f,λ_=>by decide,_,I,λ_=>by decide,_,λ_=>h.r 0,?_⟩
     have Y:((decide (0<(q:Int))&&decide (((d[q].1:Nat):Int)<=(((d.getD (q-1) (0,0)).1:Nat):Int)))||decide (65<=((d[q].1:Nat):Int)))=(pA (qH d q) d[q].1||decide (65<=d[q].1)):=by
      unfold qH
      rcases Y1 q with h0|h0
      .subst h0;rw[V5 rfl];simp[pA];omega
      .rw [nO];rw[Wp];simp only[pA,VR,VB,VA,Ye];omega
     dsimp only;rw[Y];have C:(pA (qH d q) d[q].1||decide (65<=d[q].1))=true↔(pA (qH d q) d[q].1=true\/65<=d[q].1):=by rw[VR,VA]
     refine⟨λB=>?_,λB=>?_⟩
     .rw [V5 (C.1 B)]at e2;rw[e2]at k;refine h.sta 3 rfl rfl λu h=>⟨_,_,_,_,_,_,_,_,h.rda 3 rfl,k _ h.tl.tl.tl.tl⟩
     have l6:¬(pA (qH d q) d[q].1=true\/65<=d[q].1):=λhh=>by rw[C.2 hh]at B;cases B
     rw[V4 l6]at e2;refine⟨by decide,_,h.r 0,λ_=>by decide,_,λ_=>h.r 0,λL=>?_,λL=>?_⟩
     .have:d[q].2=0\/9223372036854775807<d[q].2:=by
       simp only[VR,VA]at L;omega
      rw[V5 this]at e2;rw[e2]at k;refine h.sta 3 rfl rfl λu h=>⟨_,_,_,_,_,_,_,_,h.rda 3 rfl,k _ h.tl.tl.tl.tl⟩
     have h7:¬(d[q].2=0\/9223372036854775807<d[q].2):=by
      simp only[VP,VD]at L;omega
     rw[V4 h7]at e2;have O:d[q].1<65:=by omega
     refine⟨by decide,_,h.r 0,by decide,_,h.rd 0 rfl _,⟨by omega,by omega⟩,?_⟩;rw[aJ (x:=((d[q].2:Nat):Int)),VJ];have N:cv (dx ⟨r1.1,jp r6.1,r4.1,r5.1,r2.1,r3.1,g⟩) (7+d[q].1) [aD (d[q].2:Nat)]=dx ⟨r1.1,jp r6.1,r4.1,r5.1,r2.1,r3.1,eX g d[q].1 (d[q].2:Nat)⟩:=by
      refine (tx [aD (d[q].2:Nat)] [_,_,_,_,_,_,_] (bX .i64 g 65 0) d[q].1).trans ?_;have e3:cv (bX .i64 g 65 0) d[q].1 [aD (d[q].2:Nat)]=bX .i64 (eX g d[q].1 (d[q].2:Nat)) 65 0:=by
       show (bX .i64 g 65 0).set d[q].1 (aD (d[q].2:Nat))=_;rw[Ae _ _ _ _ _ _ O,VX]
      rw[e3]
     refine⟨h.can 1 rfl _ _ (by rw[kU];simp;omega),?_⟩;intro u8 h3;have h:=h.set 1 rfl (7+d[q].1) [aD (d[q].2:Nat)];rw[N,<-h3]at h;rw[show i64.wrap ((q:Int)+1)=((q+1:Nat):Int) by rw[aJ];omega];refine⟨⟨q+1,eX g d[q].1 (d[q].2:Nat),rfl,f,?_,?_,h.tl⟩,by simp only[VJ];omega⟩
     .intro i hi;unfold eX
      split
      .unfold aF;omega
      .exact y i hi
     .rw [e2];congr 1;unfold qH;rw[nO,YH,Yp,List.getElem?_eq_getElem f];rfl
    .have h9:q=d.length:=by have:=V9 E;omega
     subst h9;rw[W6,mR]at e2;rw[e2]at k;dsimp only at k;refine⟨_,_,_,_,_,_,_,_,h.rda 0 rfl,?_⟩;have wc:WC ⟨r1.1,jp r6.1,r4.1,r5.1,r2.1,r3.1,g⟩:=⟨by unfold aF;dsimp only;omega,IW _ v.2,Z,j3,by unfold aF;dsimp only;omega,by unfold aF;dsimp only;omega,y⟩;refine uj wc h λH36 h=>⟨_,rfl,λA=>?_,λA=>?_⟩
     .rw [V4 (by simpa using A)]at k;refine h.sta 2 rfl rfl λu h=>⟨_,_,_,_,_,_,_,_,h.rda 2 rfl,k _ h.tl.tl.tl⟩
     .rw [V5 (by simpa using A)]at k;refine⟨_,_,_,_,_,_,_,_,h.rda 0 rfl,?_⟩;refine h.sta 2 rfl (by rw[kU];exact (kU Cl.z).symm) λu h=>⟨_,_,_,_,_,_,_,_,h.rda 2 rfl,k _ h.tl.tl.tl⟩
end
structure bD where
 width:Int
 policy:Int
 most:Int
 lag:Int
 rho:Int
 trust:Int
 agents:Int
 cells:Int
 hold:Int
abbrev bD.gd(c:bD):Gd:=⟨c.width,c.policy,c.most⟩
abbrev oA(c:bD):Os:=[aB c.width,aB c.policy,aB c.most,aB c.lag,aB c.rho,aB c.trust,aB c.agents,aB c.cells,aB c.hold]
structure br where
 ck:Ck
 hs:HS Pv
 last:Int
structure aH where
 cfg:bD
 now:Int
 boots:Int
 sunk:Int
 rows:List En
 ms:MS
 cm:CM
 sts:List (Option br)
 kept:List Ot
section
variable {α:Type}
def cW:Nat->List (Option α)->List (Int×Option α)
 | _,[]=>[]
 | i,none::r=>cW (i+1) r
 | i,some b::r=>((i:Int),some b)::cW (i+1) r
theorem xn:∀{l:List (Option α)} {i:Nat} {p:Int×Option α},p∈cW i l->(i:Int)<=p.1/\p.1<i+l.length
 | [],i,p,h=>by simp[cW]at h
 | none::r,i,p,h=>by
  have a:=xn (l:=r) (i:=i+1) h;simp only[VE];omega
 | some b::r,i,p,h=>by
  simp only[VE]
  rcases VN.1 h with rfl|h
  .simp only;omega
  .have a:=xn (l:=r) (i:=i+1) h;omega
theorem AV{l:List (Option α)}{i k:Nat}(h:k<i):((k:Nat):Int)∉aG (cW i l):=λhm=>by
 obtain⟨p,a,b⟩:=VH.1 hm;have:=xn a;omega
theorem ux:∀{l:List (Option α)} {i k:Nat},aK ((i+k:Nat):Int) (cW i l)=match l[k]? with|some (some b)=>some (some b)|_=>none
 | [],i,k=>by simp[cW,aK]
 | none::r,i,0=>by
  simp only[List.getElem?_cons_zero];exact fu.2 (AV (l:=r) (by omega))
 | some b::r,i,0=>by simp[cW,aK]
 | none::r,i,k+1=>by
  have a:=ux (l:=r) (i:=i+1) (k:=k);rw[show i+1+k=i+(k+1) by omega]at a;simp only[cW,List.getElem?_cons_succ];exact a
 | some b::r,i,k+1=>by
  have a:=ux (l:=r) (i:=i+1) (k:=k);rw[show i+1+k=i+(k+1) by omega]at a;simp only[cW,List.getElem?_cons_succ,aK];rw[nO];exact a
theorem Ke{β:Type}{k:Int}{l:List (Int×β)}(h:k∉aG l):bU k l=l:=kN (fu.2 h)
theorem xo{b:α}:∀{l:List (Option α)} {i k:Nat},k<l.length->(cW i (l.set k (some b))).Perm (mset ((i+k:Nat):Int) (some b) (cW i l))
 | none::r,i,0,_=>by
  simp only[Yt,cW];unfold mset;rw[Ke (AV (by omega))];exact .refl _
 | some c::r,i,0,_=>by
  simp only[Yt,cW];unfold mset;have:bU ((i+0:Nat):Int) (((i:Int),some c)::cW (i+1) r)=bU ((i+0:Nat):Int) (cW (i+1) r):=by simp[bU]
  rw[this,Ke (AV (by omega))];exact .refl _
 | none::r,i,k+1,h=>by
  have a:=xo (b:=b) (l:=r) (i:=i+1) (k:=k) (by simpa using h);rw[show i+1+k=i+(k+1) by omega]at a;exact a
 | some c::r,i,k+1,h=>by
  have a:=xo (b:=b) (l:=r) (i:=i+1) (k:=k) (by simpa using h);rw[show i+1+k=i+(k+1) by omega]at a;simp only[YB,cW];refine (a.cons _).trans ?_;unfold mset;have:bU ((i+(k+1):Nat):Int) (((i:Int),some c)::cW (i+1) r)=((i:Int),some c)::bU ((i+(k+1):Nat):Int) (cW (i+1) r):=by
   have d:¬(i:Int)=((i+(k+1):Nat):Int):=by omega
   simp[bU,Wm,d];omega
  rw[this];exact .swap _ _ _
end
abbrev ptV(p:Option Nat):Value:=match p with|some b=>PA b 0|none=>.pointer none
theorem qI:lE Tryz.prog 142 2 169 ptV none:=qn Tryz.underlying142 (by kernel_rfl)
def strA(Q:aE)(b:Nat)(s:br):aE:=exS λp:Nat×Nat=>star [cellsA b [PA p.1 0,PA p.2 0,aD s.last] 173,ckA p.1 s.ck,hldA Q p.2 s.hs]
def strsA(Q:aE):List (Option Nat)->List (Option br)->aE
 | some b::bs,some s::ss=>strA Q b s*strsA Q bs ss
 | _::bs,_::ss=>strsA Q bs ss
 | _,_=>emp
theorem pB{Q:aE}{b:Nat}{s:br}:∀{bl:List (Option Nat)} {sts:List (Option br)} {k:Nat},bl[k]?=some none->sts[k]?=some none->
  strA Q b s*strsA Q bl sts=strsA Q (bl.set k (some b)) (sts.set k (some s))
 | [],_,k,h,_=>by simp at h
 | _::_,[],k,_,h=>by simp at h
 | x::bs,y::ss,0,h1,h2=>by
  simp at h1 h2;subst h1;subst h2;rfl
 | none::bs,y::ss,k+1,h1,h2=>pB (bl:=bs) (sts:=ss) (k:=k) (by simpa using h1) (by simpa using h2)
 | some x::bs,none::ss,k+1,h1,h2=>pB (bl:=bs) (sts:=ss) (k:=k) (by simpa using h1) (by simpa using h2)
 | some x::bs,some y::ss,k+1,h1,h2=>by
  have a:=pB (Q:=Q) (b:=b) (s:=s) (bl:=bs) (sts:=ss) (k:=k) (by simpa using h1) (by simpa using h2);show strA Q b s*(strA Q x y*strsA Q bs ss)=strA Q x y*strsA Q (bs.set k (some b)) (ss.set k (some s));rw[<-a,<-jv,ry (strA Q b s),jv]
theorem AW{Q:aE}:∀{n:Nat},strsA Q (List.replicate n none) (List.replicate n none)=emp
 | 0=>rfl
 | n+1=>AW (n:=n)
section
variable {F L:List aE}{H:aC}{K KP:KE}{Q Q':aE}
theorem gV{b:Nat}{s:br}:aA H (strA Q b s::F)↔∃cb hb,aA H (cellsA b [PA cb 0,PA hb 0,aD s.last] 173::ckA cb s.ck::hldA Q hb s.hs::F):=by
 constructor
 .intro h;obtain⟨⟨cb,hb⟩,h⟩:=cK.1 h;exact⟨cb,hb,aA.open (A:=[_,_,_]) h⟩
 .rintro⟨cb,hb,h⟩;exact cK.2 ⟨(cb,hb),aA.shut [_,_,_] h⟩
theorem strA_sub{b:Nat}{s:br}(hs:aM Q Q')(h:aA H (strA Q b s::F)):aA H (strA Q' b s::F):=by
 obtain⟨cb,hb,h⟩:=gV.1 h;have h:=h.o [2,0,1] 3;have h:=AA hs h;exact gV.2 ⟨cb,hb,h.o [1,2,0] 3⟩
theorem uy(hs:aM Q Q'):∀{bl:List (Option Nat)} {sts:List (Option br)} {F:List aE},aA H (strsA Q bl sts::F)->aA H (strsA Q' bl sts::F)
 | [],_,F,h=>h
 | none::_,[],F,h=>h
 | some _::_,[],F,h=>h
 | none::bs,y::ss,F,h=>uy (bl:=bs) (sts:=ss) hs h
 | some x::bs,none::ss,F,h=>uy (bl:=bs) (sts:=ss) hs h
 | some x::bs,some y::ss,F,h=>by
  have h:aA H (strA Q x y::strsA Q bs ss::F):=gy.1 h;have h:=strA_sub hs h;have h:=h.o [1,0] 2;have h:=uy (bl:=bs) (sts:=ss) hs h;have h:=h.o [1,0] 2;exact gy.2 h
def strmA(Q:aE)(tm:Nat)(sts:List (Option br)):aE:=exS λbl:List (Option Nat)=>star [mapA aD ptV tm (cW 0 bl),strsA Q bl sts,pur (bl.map Option.isSome=sts.map Option.isSome)]
abbrev lR(Q:aE)(bl:List (Option Nat))(sts:List (Option br))(k:Nat):aE:=strsA Q (bl.set k none) (sts.set k none)
structure Hole(bl:List (Option Nat))(sts:List (Option br))(k b:Nat):Prop where
 lt:k<sts.length
 m:bl.map Option.isSome=sts.map Option.isSome
 at_:bl[k]?=some (some b)
theorem ld{tm:Nat}{sts:List (Option br)}:aA H (strmA Q tm sts::F)↔∃bl,bl.map Option.isSome=sts.map Option.isSome/\aA H (mapA aD ptV tm (cW 0 bl)::strsA Q bl sts::F):=by
 constructor
 .intro h;obtain⟨bl,h⟩:=cK.1 h;have h:=aA.open (A:=[_,_,_]) h;have a:=aA.consP (h.o [2,0,1] 3);exact⟨bl,a.1,a.2⟩
 .rintro⟨bl,a,h⟩;exact cK.2 ⟨bl,aA.shut [_,_,_] ((h.pur a).o [1,2,0] 3)⟩
theorem qJ{bl:List (Option Nat)}{sts:List (Option br)}(h:bl.map Option.isSome=sts.map Option.isSome)(k:Nat):(bl[k]?).map Option.isSome=(sts[k]?).map Option.isSome:=by
 rw[<-List.getElem?_map,<-List.getElem?_map,h]
theorem qK{tm k:Nat}{sts:List (Option br)}{s:br}(h:aA H (strmA Q tm sts::F))(c:sts[k]?=some (some s)) :
  ∃b bl,Hole bl sts k b/\aA H (mapA aD ptV tm (cW 0 bl)::strA Q b s::lR Q bl sts k::F):=by
 obtain⟨bl,hm,h⟩:=ld.1 h;have a:k<sts.length:=(List.getElem?_eq_some_iff.1 c).1;have i:bl.length=sts.length:=by have:=congrArg List.length hm;simpa using this
 have d:=qJ hm k;rw[c,List.getElem?_eq_getElem (show k<bl.length by omega)]at d;simp only[Wj,Option.isSome_some,Option.some.injEq]at d;obtain⟨b,hb⟩:=YL.1 d;have f:bl[k]?=some (some b):=by rw[List.getElem?_eq_getElem (show k<bl.length by omega),hb]
 refine⟨b,bl,⟨a,hm,f⟩,?_⟩;have e:=pB (Q:=Q) (b:=b) (s:=s) (bl:=bl.set k none) (sts:=sts.set k none) (k:=k) (by rw[List.getElem?_set_self (by omega)]) (by rw[List.getElem?_set_self (by omega)]);rw[Yr,Yr]at e;have e1:bl.set k (some b)=bl:=by rw[<-hb,WS]
 have e2:sts.set k (some s)=sts:=by
  have:sts[k]=some s:=by rw[List.getElem?_eq_getElem a]at c;exact Option.some.inj c
  rw[<-this,WS]
 rw[e1,e2]at e;rw[<-e]at h;have h:=h.o [1,0] 2;have h:=gy.1 h;exact h.o [2,0,1] 3
theorem sF{tm k b:Nat}{bl:List (Option Nat)}{sts:List (Option br)}{s:br}(o:Hole bl sts k b)(h:aA H (mapA aD ptV tm (cW 0 bl)::strA Q b s::lR Q bl sts k::F)) :
  aA H (strmA Q tm (sts.set k (some s))::F):=by
 have d:bl.length=sts.length:=by have:=congrArg List.length o.m;simpa using this
 have a:=o.lt;have e:=pB (Q:=Q) (b:=b) (s:=s) (bl:=bl.set k none) (sts:=sts.set k none) (k:=k) (by rw[List.getElem?_set_self (by omega)]) (by rw[List.getElem?_set_self (by omega)]);rw[Yr,Yr]at e;have hb:bl[k]'(by omega)=some b:=by have:=o.at_;rw[List.getElem?_eq_getElem (by omega)]at this;exact Option.some.inj this
 have e1:bl.set k (some b)=bl:=by rw[<-hb,WS]
 rw[e1]at e;refine ld.2 ⟨bl,?_,?_⟩
 .rw [o.m,Yq];have c:=qJ o.m k;rw[o.at_,List.getElem?_eq_getElem a]at c;simp only[Wj,Option.isSome_some,Option.some.injEq]at c;have:(sts.map Option.isSome)[k]'(by simpa using a)=true:=by simp[<-c]
  rw[Option.isSome_some,<-this,WS]
 .rw [<-e];have h:=h.o [1,2,0] 3;have h:=gy.2 h;exact h.o [1,0] 2
theorem qL{tm k b:Nat}{bl:List (Option Nat)}{sts:List (Option br)}(o:Hole bl sts k b)(h:aA H F)(i:Nat)(c:aW i F=mapA aD ptV tm (cW 0 bl)) :
  dm Tryz.prog (Instr.lookup 142 (.map (some tm)) (aD (k:Int)) false) H (PA b 0):=by
 have a:=ux (l:=bl) (i:=0) (k:=k);rw[o.at_,VX]at a;exact ((h.mp_look (x:=((k:Nat):Int)) qI ko2 i c).1 _ a).2
theorem str_nil{tm:Nat}{a:Int}{sts:List (Option br)}(h:aA H (strmA Q tm sts::F))(b:a<0\/sts[a.toNat]?=some none\/sts[a.toNat]?=none) :
  dm Tryz.prog (Instr.lookup 142 (.map (some tm)) (aD a) false) H (.pointer none):=by
 obtain⟨bl,hm,h⟩:=ld.1 h;have j:aK a (cW 0 bl)=none:=by
  rcases (by omega:a<0\/0<=a) with h0|h0
  .exact fu.2 λhm=>by
    obtain⟨p,f,m⟩:=VH.1 hm;have:=xn f;omega
  .have d:=ux (l:=bl) (i:=0) (k:=a.toNat);rw[VX,show ((a.toNat:Nat):Int)=a by omega]at d;rw[d];have c:=qJ hm a.toNat
   rcases b with b|b|b
   .omega
   .rw [b]at c
    cases e:bl[a.toNat]? with
    | none=>rfl
    | some x=>
     rw[e]at c
     cases x with
     | none=>rfl
     | some y=>simp at c
   .rw [b]at c
    cases e:bl[a.toNat]? with
    | none=>rfl
    | some x=>rw[e]at c;simp at c
 exact ((h.mp_look (x:=a) qI ko2 0 rfl).2 j).2
end
structure RightQ(c:Cl):Prop where
 n0:0<=c.n
 cer0:0<=c.cer
 pos0:0<=c.pos
 mm:c.mn<=c.mx
 v:∀i,i<65->0<=c.h i
 sum:sumC c.h=c.n
 z:c.n=0->c.sum=0/\c.mn=0/\c.mx=0
 nz:c.n≠0->c.h (bZ c.mn).toNat≠0/\c.h (bZ c.mx).toNat≠0/\∀i,i<65->c.h i=0\/(bZ c.mn<=i/\(i:Int)<=bZ c.mx)
theorem uz{c:Cl}:ge c=true↔RightQ c:=by
 unfold ge
 constructor
 .intro h;simp only[VB,Wb,VP,VD,VA]at h;obtain⟨⟨⟨⟨⟨⟨m,f⟩,j⟩,k⟩,e⟩,d⟩,a⟩:=h;refine⟨by omega,by omega,by omega,by omega,qB.1 e,d,λb=>?_,λb=>?_⟩
  .rw [V5 b]at a;simp only[VB,VA]at a;exact⟨a.1.1,a.1.2,a.2⟩
  .rw [V4 b]at a;simp only[VB,Wb,VP,VD]at a;refine⟨a.1.1,a.1.2,λi hi=>?_⟩
   have:=a.2;unfold inB at this;rw[Wt]at this;have:=this i (WG.2 hi);simpa only[VR,VA] using this
 .intro h;simp only[VB,Wb,VP,VD,VA];refine⟨⟨⟨⟨⟨⟨by have:=h.n0;omega,by have:=h.cer0;omega⟩,by have:=h.pos0;omega⟩,by have:=h.mm;omega⟩,qB.2 h.v⟩,h.sum⟩,?_⟩
  by_cases b:c.n=0
  .rw [V5 b];have:=h.z b;simp only[VB,VA];exact⟨⟨this.1,this.2.1⟩,this.2.2⟩
  .rw [V4 b];have:=h.nz b;simp only[VB,Wb,VP,VD];refine⟨⟨this.1,this.2.1⟩,?_⟩;unfold inB;rw[Wt];intro i hi;simp only[VR,VA];exact this.2.2 i (WG.1 hi)
theorem T3{c:Cl}{b:Bool}(h:(gP c b).2=0):ge (gP c b).1=true:=by
 unfold gP at h ⊢
 split at h
 .simp at h
 .rename_i e;rw[V4 e];have a:=uz.1 (by simpa using e)
  split at h
  .rename_i hb;rw[V5 hb]
   split at h
   .simp at h
   .rename_i d;rw[V4 d];exact uz.2 ⟨a.n0,by have:=a.cer0;show 0<=c.cer+1;omega,a.pos0,a.mm,a.v,a.sum,a.z,a.nz⟩
  .rename_i hb;rw[V4 hb]
   split at h
   .simp at h
   .rename_i d;rw[V4 d];exact uz.2 ⟨a.n0,a.cer0,by have:=a.pos0;show 0<=c.pos+1;omega,a.mm,a.v,a.sum,a.z,a.nz⟩
theorem T4{a b:Nat}(h:a<=b):bitLen a<=bitLen b:=by
 unfold bitLen
 split
 .omega
 .rename_i c;rw[nO];have d:=Nat.log2_self_le c;have e:=(Nat.le_log2 (show b≠0 by omega)).2 (VT d h);omega
theorem xp{v w:Int}(h:v<=w):bZ v<=bZ w:=by
 have e:∀x:Int,bZ x=if x<0 then 0 else if x=0 then 1 else 1+((bitLen x.toNat:Nat):Int):=λ_=>rfl
 have hm:=T4 (a:=v.toNat) (b:=w.toNat) (by omega);rw[e v,e w]
 by_cases h1:v<0
 .rw [V5 h1]
  by_cases h2:w<0
  .rw [V5 h2];exact Wh _
  .rw [V4 h2]
   by_cases h3:w=0
   .rw [V5 h3];decide
   .rw [V4 h3];omega
 .rw [V4 h1,V4 (show ¬w<0 by omega)]
  by_cases h3:w=0
  .rw [V5 (show v=0 by omega),V5 h3];exact Wh _
  .rw [V4 h3]
   by_cases h4:v=0
   .rw [V5 h4];omega
   .rw [V4 h4];omega
abbrev mS(f:Nat->Int)(n:Nat):Int:=((List.range n).map f).sum
theorem xq(f:Nat->Int)(n:Nat):mS f (n+1)=mS f n+f n:=by
 unfold mS;rw[List.range_succ,VW,List.sum_append];simp
theorem Kf(f:Nat->Int)(j:Nat):∀n,mS (eX f j (f j+1)) n=mS f n+if j<n then 1 else 0
 | 0=>by simp[mS]
 | n+1=>by
  rw[xq,xq,Kf f j n];unfold eX
  by_cases h:n=j
  .subst h;simp;omega
  .rw [V4 h]
   by_cases h2:j<n
   .rw [V5 h2,pO];omega
   .rw [V4 h2,nO];omega
theorem Kg{f:Nat->Int}:∀{n:Nat},(∀i,i<n->0<=f i)->mS f n<=0->∀i,i<n->f i=0
 | 0,_,_,i,hi=>by omega
 | n+1,h,hs,i,hi=>by
  rw[xq]at hs;have h0:0<=mS f n:=sumR_nn λi hi=>h i (by omega)
  have b:=h n (by omega)
  rcases (by omega:i<n\/i=n) with a|rfl
  .exact Kg (λi hi=>h i (by omega)) (by omega) i a
  .omega
where sumR_nn {f:Nat->Int}:∀{n:Nat},(∀i,i<n->0<=f i)->0<=mS f n
 | 0,_=>by simp[mS]
 | n+1,h=>by
  rw[xq];have:=sumR_nn (n:=n) λi hi=>h i (by omega)
  have:=h n (by omega);omega
theorem T5{c:Cl}{v:Int}(wc:WC c)(D:aF v)(h:(jV c v).2=0):ge (jV c v).1=true:=by
 unfold jV at h ⊢
 split at h
 .simp at h
 rename_i u;rw[V4 u];have a:=uz.1 (by simpa using u)
 split at h
 .simp at h
 rename_i m;rw[V4 m]
 split at h
 .simp at h
 rename_i A;rw[V4 A]
 split at h
 .simp at h
 rename_i d;rw[V4 d];have e1:(j4 c.n 1).1=c.n+1:=by
  unfold j4 at m ⊢
  split at m
  .rename_i B;rw[V5 B]
  .simp at m
 have bv:=pp D;have e3:(jo c.h v).1=eX c.h (bZ v).toNat (c.h (bZ v).toNat+1):=by
  unfold jo at d ⊢
  split at d
  .simp at d
  .rename_i H;rw[V4 H]
   split at d
   .simp at d
   .rename_i j;rw[V4 j]
 have s:∀i,i≠(bZ v).toNat->eX c.h (bZ v).toNat (c.h (bZ v).toNat+1) i=c.h i:=λi hi=>by unfold eX;rw[V4 hi]
 have hs:eX c.h (bZ v).toNat (c.h (bZ v).toNat+1) (bZ v).toNat=c.h (bZ v).toNat+1:=by unfold eX;rw[V5 rfl]
 have G:=a.v (bZ v).toNat (by omega);have y:=a.n0;refine uz.2 ?_;dsimp only;rw[e1,e3];have I:c.n=0->∀i,i<65->c.h i=0:=λh0=>Kg (n:=65) a.v (by have:=a.sum;unfold sumC rowH at this;show ((List.range 65).map c.h).sum<=0;omega)
 refine⟨?_,a.cer0,a.pos0,?_,λi hi=>?_,?_,λh0=>?_,λ_=>?_⟩
 .show 0<=c.n+1;omega
 .have:=a.mm;dsimp only
  by_cases h0:c.n=0
  .simp only[V5 h0];split <;> omega
  .simp only[V4 h0];split <;> split <;> omega
 .dsimp only
  by_cases e:i=(bZ v).toNat
  .subst e;rw[hs];omega
  .rw [s i e];exact a.v i hi
 .have j:=Kf c.h (bZ v).toNat 65;rw[pO]at j;have F:=a.sum;show mS _ 65=c.n+1;rw[j];unfold sumC rowH at F;show ((List.range 65).map c.h).sum+1=_;omega
 .exfalso;have h0:c.n+1=0:=h0;omega
 .dsimp only
  by_cases h0:c.n=0
  .rw [V5 h0,V5 h0,nO,hs];refine⟨by omega,by omega,λi hi=>?_⟩
   by_cases e:i=(bZ v).toNat
   .right;omega
   .left;rw[s i e];exact I h0 i hi
  .rw [V4 h0,V4 h0];have b:=a.nz h0;have f:∀i,c.h i≠0->i<65->eX c.h (bZ v).toNat (c.h (bZ v).toNat+1) i≠0:=λi hi J=>by
    by_cases e:i=(bZ v).toNat
    .subst e;rw[hs];omega
    .rw [s i e];exact hi
   have C:=pp wc.mn;have E:=pp wc.mx;have m1:∀x,x<=c.mn->bZ x<=bZ c.mn:=λx t=>xp t
   have m2:∀x,c.mx<=x->bZ c.mx<=bZ x:=λx t=>xp t
   refine⟨?_,?_,λi hi=>?_⟩
   .split
    .rw [hs];omega
    .exact f _ b.1 (by omega)
   .split
    .rw [hs];omega
    .exact f _ b.2.1 (by omega)
   .by_cases e:i=(bZ v).toNat
    .right;subst e
     constructor
     .split
      .omega
      .have:=xp (v:=c.mn) (w:=v) (by omega);omega
     .split
      .omega
      .have:=xp (v:=v) (w:=c.mx) (by omega);omega
    .rw [s i e]
     rcases b.2.2 i hi with k|k
     .left;exact k
     .right
      constructor
      .split
       .have:=m1 v (by omega);omega
       .exact k.1
      .split
       .have:=m2 v (by omega);omega
       .exact k.2
theorem nU{κ α:Type}[DecidableEq κ]{x:κ}{v:α}{m:List (κ×α)}{p:κ×α}(h:p∈mset x v m):p=(x,v)\/p∈m:=by
 unfold mset at h
 rcases VN.1 h with h|h
 .exact .inl h
 .exact .inr (W7.1 h).1
structure sG(m:CM):Prop where
 nd:(aG m).Nodup
 wc:∀p∈m,WC p.2
 rt:∀p∈m,ge p.2=true
 wn:∀p∈m,aF p.1.win
theorem sG.mset{m:CM}(h:sG m){k:Ky}{c:Cl}(e:WC c)(b:ge c=true)(d:aF k.win):sG (mset k c m):=
 ⟨oP h.nd,λp a=>by
  rcases nU a with rfl|a
  .exact e
  .exact h.wc p a,λp a=>by
  rcases nU a with rfl|a
  .exact b
  .exact h.rt p a,λp a=>by
  rcases nU a with rfl|a
  .exact d
  .exact h.wn p a⟩
theorem AX{m:CM}{ser:Fa}{b:Bool}:∀{ws:List Int} {p:Ky×Cl},p∈(ig m ser b ws).1->∃w∈ws,p.1=⟨w,ser⟩/\p.2=(gP (fO m ⟨w,ser⟩) b).1/\(gP (fO m ⟨w,ser⟩) b).2=0
 | [],p,h=>by simp[ig]at h
 | w::r,p,h=>by
  unfold ig at h
  split at h
  .simp at h
  .rename_i h0
   rcases VN.1 h with rfl|h
   .exact⟨w,VO ..,rfl,rfl,by simpa using h0⟩
   .obtain⟨a,d,c⟩:=AX h;exact⟨a,VQ _ d,c⟩
theorem Kh{m:CM}{ser:Fa}{b:Bool}:∀{ws:List Int},(ig m ser b ws).2=0->aG (ig m ser b ws).1=ws.map λw=>(⟨w,ser⟩:Ky)
 | [],_=>rfl
 | w::r,h=>by
  unfold ig at h ⊢
  split at h
  .rename_i h0;exact V6 h h0
  .rename_i h0;rw[V4 h0];have a:=Kh (ws:=r) h;show _::aG (ig m ser b r).1=_;rw[a];rfl
theorem Ki:∀{l:CM} {m:CM},sG m->(∀p∈l,WC p.2/\ge p.2=true/\aF p.1.win)->sG (lM l m)
 | [],m,h,_=>h
 | p::r,m,h,hl=>by
  have a:=hl p (VO ..);exact Ki (l:=r) (h.mset a.1 a.2.1 a.2.2) λq b=>hl q (VQ _ b)
theorem T6{κ α:Type}[DecidableEq κ]{x:κ}{v:α}{m:List (κ×α)}(a:(aG m).Nodup):(mset x v m).length=m.length+(if (aK x m).isNone then 1 else 0):=by
 cases h:aK x m with
 | none=>rw[Eg h];rfl
 | some u=>rw[Ei a h];rfl
theorem Kj:∀{l:CM} {m:CM},(aG m).Nodup->(aG l).Nodup->((lM l m).length:Int)=m.length+((aG l).filter λk=>(aK k m).isNone).length
 | [],m,_,_=>by simp[lM]
 | p::r,m,hn,hl=>by
  have a:p.1∉aG r/\(aG r).Nodup:=WW.1 hl;show ((lM r (mset p.1 p.2 m)).length:Int)=_;rw[Kj (l:=r) (oP hn) a.2,T6 hn];have e:(aG r).filter (λk=>(aK k (mset p.1 p.2 m)).isNone)=(aG r).filter (λk=>(aK k m).isNone):=by
   apply Y3;intro k b;rw[lD,V4 (λe:k=p.1=>a.1 (e▸b))]
  rw[e];show _=_+(((p.1::aG r).filter λk=>(aK k m).isNone).length:Int)
  rw[Wm]
  cases (aK p.1 m).isNone <;> simp <;> omega
theorem wins_wf{first last:Int}(c:aF first)(b:aF last):∀w∈cr first last,aF w:=by
 intro w a;unfold cr at a;obtain⟨i,hi,rfl⟩:=VH.1 a;have:=WG.1 hi;unfold aF at *;omega
theorem T7(first last:Int)(ser:Fa):((cr first last).map λw=>(⟨w,ser⟩:Ky)).Nodup:=by
 unfold cr;rw[Wu];refine Y0.2 (List.nodup_range.imp λ{a b} c e=>c ?_)
 have:=congrArg Ky.win e;dsimp only[Function.comp]at this;omega
theorem dX.good{most:Int}{m:CM}(h:dX most m):sG m:=⟨h.nd,h.wc,h.rt,h.wn⟩
theorem xr{most:Int}{m:CM}{first last:Int}{ser:Fa}(h:dX most m)(u:aF first)(n:aF last):dX most (jX most m first last ser).1:=by
 unfold jX
 split
 .exact h
 split
 .exact h
 split
 .exact h
 rename_i s i d;have d:(ig m ser (decide (first=last)) (cr first last)).2=0:=by simpa using d
 have c:=Ki (l:=(ig m ser (decide (first=last)) (cr first last)).1) h.good λp t=>by
  obtain⟨w,j,e1,e2,e3⟩:=AX t;rw[e2,e1];exact⟨IB (h.cell _) _,T3 e3,wins_wf u n w j⟩
 have f:=Kh d;have a:=Kj (l:=(ig m ser (decide (first=last)) (cr first last)).1) (m:=m) h.nd (by rw[f];exact T7 first last ser);rw[f]at a;refine⟨h.m1,h.m2,c.nd,c.wc,c.rt,c.wn,?_⟩;dsimp only;rw[a];have b:qD most m first last ser=true:=by simpa using i
 unfold qD at b;rw[V4 s]at b
 split at b
 .cases b
 .have b:=V8 b;have e:((((cr first last).map λw=>(⟨w,ser⟩:Ky)).filter λk=>(aK k m).isNone).length:Int)=jW m ser (cr first last):=by
   unfold jW;rw[List.filter_map,VM];rfl
  rw[e];exact b
theorem T8{most:Int}{m:CM}{k:Ky}{v:Int}(h:dX most m)(d:aF v)(e:aF k.win):dX most (mI m k v).1:=by
 unfold mI
 split
 .exact h
 .rename_i c b
  split
  .exact h
  .rename_i h0;have h0:(jV c v).2=0:=by simpa using h0
   have wc:=h.wc _ (hI b);have a:=h.good.mset (k:=k) (addC_wf wc d) (T5 wc d h0) e;refine⟨h.m1,h.m2,a.nd,a.wc,a.rt,a.wn,?_⟩;dsimp only;rw[Ei h.nd b];exact h.len
theorem setS_ok{most:Int}{m:CM}{k:Ky}{c:Cl}(h:dX most m)(wc:WC c)(f:aF k.win):dX most (jY most m k c).1:=by
 unfold jY
 split
 .exact h
 split
 .exact h
 split
 .exact h
 rename_i b d i;have a:=h.good.mset (k:=k) wc (by simpa using d) f;refine⟨h.m1,h.m2,a.nd,a.wc,a.rt,a.wn,?_⟩;dsimp only;have:aK k m=none:=by
  cases e:aK k m with
  | none=>rfl
  | some x=>rw[e]at b;simp at b
 rw[Eg this];omega
theorem xt:∀{l:List Ot} {m:CM} {p:Ky×Cl},p∈lN m l->p∈m
 | [],m,p,h=>h
 | o::r,m,p,h=>(W7.1 (xt (l:=r) h)).1
theorem Kk:∀{l:List Ot} {m:CM},(aG m).Nodup->(aG (lN m l)).Nodup/\(lN m l).length<=m.length
 | [],m,h=>⟨h,VF _⟩
 | o::r,m,h=>by
  have c:(aG (bU o.1 m)).Nodup:=h.sublist (List.filter_sublist.map _);have a:=Kk (l:=r) c;have b:(bU o.1 m).length<=m.length:=Y4 _ _;exact⟨a.1,VT a.2 b⟩
theorem T9{most:Int}{m:CM}{a:Int}(h:dX most m):dX most (nP m a):=by
 have c:=Kk (l:=iC m a) h.nd;exact⟨h.m1,h.m2,c.1,λp b=>h.wc p (xt b),λp b=>h.rt p (xt b),λp b=>h.wn p (xt b),by have:=c.2;have:=h.len;unfold nP;omega⟩
def cQ(ck:Ck)(fl:Fl)(now stamp:Int):Gp×Int:=
 if (ckAt ck stamp).2≠0 then (Gp.z,(ckAt ck stamp).2)
 else if (kQ [(ckAt ck stamp).1,⟨fl.t,now⟩]).2≠0 then (Gp.z,13) else ((kQ [(ckAt ck stamp).1,⟨fl.t,now⟩]).1,0)
abbrev bF(ms:MS)(a:Int):Fl:=(aK a ms.m).getD Fl.z
structure JR where
 st:br
 ms:MS
 cm:CM
 reason:Int
 win:Int
 gap:Gp
def eD(c:bD)(now a:Int)(st:br)(ms:MS)(cm:CM)(e:Pv):JR:=
 if e.stamp<st.last then ⟨st,ms,cm,6,0,Gp.z⟩ else
 if (cQ st.ck (bF ms a) now e.stamp).2≠0\/st.ck.held=true then ⟨{ st with last:=e.stamp },ms,cm,2,0,Gp.z⟩ else
 if (cQ st.ck (bF ms a) now e.stamp).1.lo<(ms.raise a (cQ st.ck (bF ms a) now e.stamp).1.lo).1.value then
  ⟨{ st with last:=e.stamp },(ms.raise a (cQ st.ck (bF ms a) now e.stamp).1.lo).1,cm,1,0,(cQ st.ck (bF ms a) now e.stamp).1⟩ else
 if (jX c.cells cm (dM c.gd (cQ st.ck (bF ms a) now e.stamp).1).1 (dM c.gd (cQ st.ck (bF ms a) now e.stamp).1).2.1 (gh e.name e.labs)).2≠0 then
  ⟨{ st with last:=e.stamp },(ms.raise a (cQ st.ck (bF ms a) now e.stamp).1.lo).1,
   (jX c.cells cm (dM c.gd (cQ st.ck (bF ms a) now e.stamp).1).1 (dM c.gd (cQ st.ck (bF ms a) now e.stamp).1).2.1 (gh e.name e.labs)).1,4,0,(cQ st.ck (bF ms a) now e.stamp).1⟩ else
 if (mG c.gd (cQ st.ck (bF ms a) now e.stamp).1).2≠0 then
  ⟨{ st with last:=e.stamp },(ms.raise a (cQ st.ck (bF ms a) now e.stamp).1.lo).1,
   (jX c.cells cm (dM c.gd (cQ st.ck (bF ms a) now e.stamp).1).1 (dM c.gd (cQ st.ck (bF ms a) now e.stamp).1).2.1 (gh e.name e.labs)).1,3,0,(cQ st.ck (bF ms a) now e.stamp).1⟩ else
 ⟨{ st with last:=e.stamp },(ms.raise a (cQ st.ck (bF ms a) now e.stamp).1.lo).1,
  (mI (jX c.cells cm (dM c.gd (cQ st.ck (bF ms a) now e.stamp).1).1 (dM c.gd (cQ st.ck (bF ms a) now e.stamp).1).2.1 (gh e.name e.labs)).1 ⟨(mG c.gd (cQ st.ck (bF ms a) now e.stamp).1).1,gh e.name e.labs⟩ e.value).1,
  if (mI (jX c.cells cm (dM c.gd (cQ st.ck (bF ms a) now e.stamp).1).1 (dM c.gd (cQ st.ck (bF ms a) now e.stamp).1).2.1 (gh e.name e.labs)).1 ⟨(mG c.gd (cQ st.ck (bF ms a) now e.stamp).1).1,gh e.name e.labs⟩ e.value).2≠0 then 4 else 0,
  if (mI (jX c.cells cm (dM c.gd (cQ st.ck (bF ms a) now e.stamp).1).1 (dM c.gd (cQ st.ck (bF ms a) now e.stamp).1).2.1 (gh e.name e.labs)).1 ⟨(mG c.gd (cQ st.ck (bF ms a) now e.stamp).1).1,gh e.name e.labs⟩ e.value).2≠0 then 0 else (mG c.gd (cQ st.ck (bF ms a) now e.stamp).1).1,
  (cQ st.ck (bF ms a) now e.stamp).1⟩
section
variable {F L:List aE}{H:aC}{K KP:KE}{Q Q':aE}
theorem Kl{sb c mb mm cb hb:Nat}{cs:Os}{ms:MS}{ck:Ck}{now a stamp last:Int}(n:ck.smps.length<=8)(v:aT cs 9=some (aD now))(j:aT cs 16=some (PA mb 0))
  (h:aA H (cellsA sb cs 145::Ma.markC mb mm ms::Ma.mapF mm ms.m::cellsA c [PA cb 0,PA hb 0,aD last] 173::ckA cb ck::F))
  (k:∀f,aA f (cellsA sb cs 145::Ma.markC mb mm ms::Ma.mapF mm ms.m::cellsA c [PA cb 0,PA hb 0,aD last] 173::ckA cb ck::F)->
   K (.tuple #[jS (cQ ck (bF ms a) now stamp).1,aD (cQ ck (bF ms a) now stamp).2]) f) :
  CF 156 #[PA sb 0,aD a,PA c 0,aD stamp] H K:=by
 refine cN 156 298920156 [[(11,sI),(14,sA)]] ?_;refine h.al λb _ h=>⟨_,h.r 4,?_⟩
 have h:=h.o [5,0,1,2,3,4] 6;refine Rv n h λy h=>⟨_,_,_,rfl,?_⟩
 unfold cQ at k;generalize ckAt ck stamp=C at *;refine h.al λb1 _ h=>?_
 refine h.st 0 rfl rfl ?_;intro A h;refine⟨λd=>?_,λd=>?_⟩
 .rw [V5 (by simpa using d)]at k;refine h.st 2 rfl rfl ?_;intro i h;refine⟨_,_,h.q 2,?_⟩;exact k _ (h.o [3,4,5,6,1] 7)
 rw[V4 (by simpa using d)]at k;refine⟨_,(h.r 3).trans j,?_⟩;have h:=h.o [4,5,0,1,2,3,6] 7;refine Ma.Of_spec (a:=a) h λi h=>⟨_,_,_,_,_,rfl,?_⟩
 refine h.al λb2 _ h=>?_
 refine h.st 0 rfl rfl ?_;intro B h;intro x w;generalize hM:kQ [C.1,⟨(bF ms a).t,now⟩]=M at *;have e:∀pb f,aA f (cellsA pb [aD M.1.lo,aD M.1.hi] 89::cellsA b [aD 0,aD 0] 89::cellsA sb cs 145::Ma.markC mb mm ms::Ma.mapF mm ms.m::cellsA c [PA cb 0,PA hb 0,aD last] 173::ckA cb ck::F)->x M.2 pb 0 f:=by
  intro pb f h;refine w _ _ _ _ ?_;refine⟨λd=>?_,λd=>?_⟩
  .rw [V5 (by simpa using d)]at k;refine h.st 1 rfl rfl ?_;intro i h;exact⟨_,_,h.q 1,k _ h.tl.tl⟩
  .rw [V4 (by simpa using d)]at k;refine⟨_,_,h.q 0,?_⟩;refine h.st 1 rfl rfl ?_;intro i h;exact⟨_,_,h.q 1,k _ h.tl.tl⟩
 refine⟨_,_,h.q 3,_,h.r 0,_,(h.r 6).trans v,?_,?_⟩
 .refine h.al λb3 _ h=>⟨?_,?_⟩
  .refine ue (gs:=[C.1,⟨(bF ms a).t,now⟩]) h (λH h=>h.ce_rd 0 rfl) (by simp) λu h=>⟨_,_,_,rfl,?_⟩
   rw[hM];refine h.al λb4 _ h=>?_
   refine h.st 0 rfl rfl ?_;intro s h;exact e _ _ (h.o [0,7,8,3,4,9,6] 10)
  .refine h.al λb5 _ h=>?_
   refine ue (gs:=[C.1,⟨(bF ms a).t,now⟩]) h (λH h=>h.ce_rd 1 rfl) (by simp) λu h=>⟨_,_,_,rfl,?_⟩
   rw[hM];refine h.st 0 rfl rfl ?_;intro s h;exact e _ _ (h.o [0,7,8,3,4,9,6] 10)
 .refine h.al λb6 _ h=>⟨(h.r 7).trans v,h.r 1,h.q 4,?_⟩
  refine h.al λb7 _ h=>?_
  refine ue (gs:=[C.1,⟨(bF ms a).t,now⟩]) h (λH h=>h.ce_rd 0 rfl) (by simp) λu h=>⟨_,_,_,rfl,?_⟩
  rw[hM];refine h.st 1 rfl rfl ?_;intro s h;exact e _ _ (h.o [1,7,8,3,4,9,6] 10)
theorem Km(g:Gd)(t:Int):aF (fN g t):=by
 unfold fN
 split
 .split <;> exact i64in _
 .unfold aF;decide
theorem wf_meets(g:Gd)(x:Gp):aF (dM g x).1/\aF (dM g x).2.1:=by
 unfold dM
 split
 .split
  .exact⟨Km _ _,Km _ _⟩
  .unfold aF;decide
 .unfold aF;decide
theorem TA{c:bD}{sb j mm cb:Nat}{p_mb p_hb p_hm A:Nat}{cs:Os}{ms:MS}{cm:CM}{st:br}{now a:Int}{e:Ev}(J:st.ck.smps.length<=8)(ok:dX c.cells cm)(Q:aF e.value)
  (h9:aT cs 9=some (aD now)) (D:(cs.drop 12).take 3=[aD c.width,aD c.policy,aD c.most]) (u:aT cs 16=some (PA p_mb 0)) (w:aT cs 17=some (PA p_hb 0)) (Y:∀H,aA H F->aP H e.la (flat dg e.labs))
  (h:aA H (cellsA sb cs 145::Ma.markC p_mb mm ms::Ma.mapF mm ms.m::shC p_hb p_hm c.cells::cz p_hm cm::cellsA j [PA cb 0,PA A 0,aD st.last] 173::ckA cb st.ck::F))
  (k:∀O,aA O (cellsA sb cs 145::Ma.markC p_mb mm (eD c now a st ms cm e.p).ms::Ma.mapF mm (eD c now a st ms cm e.p).ms.m::shC p_hb p_hm c.cells::cz p_hm (eD c now a st ms cm e.p).cm::cellsA j [PA cb 0,PA A 0,aD (eD c now a st ms cm e.p).st.last] 173::ckA cb st.ck::F)->
   K (.tuple #[.agg #[aD (eD c now a st ms cm e.p).reason,aD (eD c now a st ms cm e.p).win],jS (eD c now a st ms cm e.p).gap]) O) :
  CF 155 #[PA sb 0,aD a,PA j 0,aggV e] H K:=by
 refine cM 155 8182367178792412 ?_;unfold eD at k;have f:e.p.stamp=e.stamp:=rfl;have y:e.p.value=e.value:=rfl;have n:e.p.name=e.name:=rfl;have s:e.p.labs=e.labs:=rfl;rw[f,y,n,s]at k;refine h.al λb _ h=>?_
 refine h.al λb1 _ h=>?_
 refine h.al λb2 _ h=>?_
 refine⟨_,h.r 2,_,h.r 8,λd=>?_,λd=>?_⟩
 .have d:=V8 d;simp only[V5 d]at k;refine h.st 1 rfl rfl ?_;intro V h;refine h.st 0 rfl rfl ?_;intro U h;exact⟨_,_,h.q 1,_,_,h.q 0,k _ h.tl.tl.tl⟩
 have d:=V9 d;simp only[V4 d]at k;refine⟨_,h.r 2,?_⟩;refine h.st 8 rfl rfl ?_;intro V h;refine⟨_,h.r 2,?_⟩;have h:=h.o [3,4,5,8,9,0,1,2,6,7] 10;refine Kl (a:=a) (stamp:=e.stamp) J h9 u h λU h=>⟨_,_,_,rfl,?_⟩
 generalize cQ st.ck (bF ms a) now e.stamp=T at *;refine h.al λb3 _ h=>?_
 refine h.st 0 rfl rfl ?_;intro H4 h;refine⟨_,h.rd 4 rfl 0,_,ug (h.o [5] 6),λd=>?_,λd=>?_⟩
 .have d:T.2≠0\/st.ck.held=true:=by
   simp only[VR,Wb,VD]at d
   rcases d with d|d
   .exact .inr d
   .exact .inl d
  simp only[V5 d]at k;refine h.st 7 rfl rfl ?_;intro R h;refine h.st 6 rfl rfl ?_;intro L h;exact⟨_,_,h.q 7,_,_,h.q 6,k _ (h.o [1,2,3,9,10,4,5] 11)⟩
 have d:¬(T.2≠0\/st.ck.held=true):=by
  simp only[VP,Wq,VA]at d;rintro (E|E)
  .exact E d.2
  .rw [d.1]at E;cases E
 simp only[V4 d]at k;refine⟨_,(h.r 1).trans u,_,h.r 0,?_⟩;have h:=h.o [2,3,0,1,4,5,6,7,8,9,10] 11;refine Ma.Raise_spec (a:=a) (t:=T.1.lo) h λR h=>⟨_,rfl,?_⟩
 generalize (ms.raise a T.1.lo).1=M at *;refine⟨_,h.r 2,_,(h.r 3).trans u,_,Ma.Value_spec h 0 rfl,λd=>?_,λd=>?_⟩
 .have d:=V8 d;simp only[V5 d]at k;refine⟨_,_,h.q 2,?_⟩;refine h.st 7 rfl rfl ?_;intro L h;refine⟨h.q 2,?_⟩;refine h.st 6 rfl rfl ?_;intro Z h;exact⟨_,_,h.q 7,_,_,h.q 6,k _ (h.o [3,0,1,9,10,4,5] 11)⟩
 have d:=V9 d;simp only[V4 d]at k;refine⟨_,_,_,_,h.q 8,?_⟩;refine Sm h (λH h=>Y H (h.o [] 11)) λL h=>⟨_,rfl,?_⟩
 generalize gh e.name e.labs=ser at *;refine⟨_,_,_,h.rds 3 rfl D,_,_,h.q 2,?_⟩;refine Ix (g:=c.gd) (x:=T.1) h λZ h=>⟨_,_,_,rfl,?_⟩
 have i:=wf_meets c.gd T.1;generalize dM c.gd T.1=W at *;refine⟨_,(h.r 3).trans w,?_⟩;have h:=h.o [9,10,0,1,2,3,4,5,6,7,8] 11;refine RQ ok i.1 i.2 h λH8 h=>⟨_,rfl,?_⟩
 have I:dX c.cells (jX c.cells cm W.1 W.2.1 ser).1:=xr ok i.1 i.2;generalize jX c.cells cm W.1 W.2.1 ser=N at *;refine⟨λd=>?_,λd=>?_⟩
 .have d:N.2≠0:=by simpa using d
  simp only[V5 d]at k;refine⟨_,_,h.q 4,?_⟩;refine h.st 9 rfl rfl ?_;intro S h;refine⟨h.q 4,?_⟩;refine h.st 8 rfl rfl ?_;intro v h;exact⟨_,_,h.q 9,_,_,h.q 8,k _ (h.o [5,2,3,0,1,6,7] 11)⟩
 have d:¬N.2≠0:=by simpa using d
 simp only[V4 d]at k;refine⟨_,_,_,h.rds 5 rfl D,_,_,h.q 4,?_⟩;refine Rq (g:=c.gd) (x:=T.1) h λS h=>⟨_,_,rfl,?_⟩
 generalize mG c.gd T.1=P at *;refine⟨λd=>?_,λd=>?_⟩
 .have d:P.2≠0:=by simpa using d
  simp only[V5 d]at k;refine⟨_,_,h.q 4,?_⟩;refine h.st 9 rfl rfl ?_;intro v h;refine⟨h.q 4,?_⟩;refine h.st 8 rfl rfl ?_;intro B h;exact⟨_,_,h.q 9,_,_,h.q 8,k _ (h.o [5,2,3,0,1,6,7] 11)⟩
 have d:¬P.2≠0:=by simpa using d
 simp only[V4 d]at k;refine⟨_,(h.r 5).trans w,_,h.r 10,?_⟩;refine RK I (key:=⟨P.1,ser⟩) Q h λv h=>⟨_,rfl,?_⟩
 generalize mI N.1 ⟨P.1,ser⟩ e.value=C at *;refine⟨λd=>?_,λd=>?_⟩
 .have d:C.2≠0:=by simpa using d
  simp only[V5 d]at k;refine⟨_,_,h.q 4,?_⟩;refine h.st 9 rfl rfl ?_;intro B h;refine⟨h.q 4,?_⟩;refine h.st 8 rfl rfl ?_;intro G h;exact⟨_,_,h.q 9,_,_,h.q 8,k _ (h.o [5,2,3,0,1,6,7] 11)⟩
 .have d:¬C.2≠0:=by simpa using d
  simp only[V4 d]at k;refine⟨_,_,h.q 4,?_⟩;refine h.st 9 rfl rfl ?_;intro B h;refine⟨h.q 4,?_⟩;refine h.st 8 rfl rfl ?_;intro G h;exact⟨_,_,h.q 9,_,_,h.q 8,k _ (h.o [5,2,3,0,1,6,7] 11)⟩
end
structure bH where
 kind:Int:=0
 agent:Int:=0
 epoch:Int:=0
 boot:Int:=0
 next:Int:=0
 number:Int:=0
 ida:Int:=0
 ide:Int:=0
 seq:Int:=0
 reason:Int:=0
 win:Int:=0
 gap:Gp:=Gp.z
 out:Ot:=(⟨0,⟨#[]⟩⟩,Cl.z)
abbrev dP(e:bH):Os:=[aB e.kind,aB e.agent,aB e.epoch,aB e.boot,aB e.next,aB e.number,aB e.ida,aB e.ide,aB e.seq,aB e.reason,aB e.win,aB e.gap.lo,aB e.gap.hi,
 aB e.out.1.win,.string e.out.1.ser,aB e.out.2.n,aB (cw e.out.2.sum),.int .u64 (wlo e.out.2.sum),aB e.out.2.mn,aB e.out.2.mx,aB e.out.2.cer,aB e.out.2.pos]++bX .i64 e.out.2.h 65 0
theorem Ko(e:bH):(dP e).length=87:=rfl
theorem uA(e:bH):cT (dP e)=true:=rfl
structure SAd where
 rb:Nat
 rm:Nat
 mb:Nat
 mm:Nat
 hb:Nat
 hm:Nat
 tm:Nat
 ka:KQ
 kc:Nat
abbrev dr(s:aH)(p:SAd):Os:=[aB s.cfg.width,aB s.cfg.policy,aB s.cfg.most,aB s.cfg.lag,aB s.cfg.rho,aB s.cfg.trust,aB s.cfg.agents,aB s.cfg.cells,aB s.cfg.hold,aB s.now,aB s.boots,aB s.sunk,
 aB s.cfg.width,aB s.cfg.policy,aB s.cfg.most,PA p.rb 0,PA p.mb 0,PA p.hb 0,.map (some p.tm),.slice p.ka s.kept.length p.kc]
structure jB(c:bD):Prop where
 gd:c.gd.ok
 lag:1<=c.lag/\c.lag<=1099511627776
 rate:gA c.rho/\0<=c.trust/\c.trust<=100
 ag:1<=c.agents/\c.agents<=64
 cl:1<=c.cells/\c.cells<=1024
 hd:1<=c.hold/\c.hold<=256
structure lS(c:bD)(s:br):Prop where
 ck:CkOk s.ck
 rho:s.ck.rho=c.rho
 least:s.ck.least=c.trust
 hs:s.hs.Ok
 most:s.hs.most=c.hold
 next:s.hs.next<=1099511627776
 rows:∀p∈s.hs.rows,p.1<1099511627776/\gS p.2=true/\aF p.2.value
 last:-1<=s.last/\s.last<=4611686018427387903
structure cR(s:aH):Prop where
 cfg:jB s.cfg
 now:isT s.now
 boots:0<=s.boots/\s.boots<=1099511627776
 sunk:0<=s.sunk
 rows:fP s.rows
 ms:MOk s.ms
 lag:s.ms.lag=s.cfg.lag
 sh:dX s.cfg.cells s.cm
 len:s.sts.length=64
 sts:∀st,some st∈s.sts->lS s.cfg st
 reg:∀k:Nat,(∃st:br,s.sts[k]?=some (some st))↔∃e:En,s.rows[k]?=some e/\0<e.epoch
 kept:∀o∈s.kept,WC o.2
theorem sl39:SlT Tryz.prog 54 305 87 704:=iu (by kernel_rfl)
abbrev stLZZ(Q:aE)(sb:Nat)(s:aH)(p:SAd):List aE:=[cellsA sb (dr s p) 145,Ro.rollC p.rb p.rm s.cfg.agents,Ro.mapE p.rm s.rows,Ma.markC p.mb p.mm s.ms,Ma.mapF p.mm s.ms.m,shC p.hb p.hm s.cfg.cells,cz p.hm s.cm,strmA Q p.tm s.sts,slA 164 74 p.ka s.kept.length p.kc (flat cJ s.kept)]
def stA(Q:aE)(sb:Nat)(s:aH):aE:=exS λp:SAd=>star (stLZZ Q sb s p)
section
variable {F L:List aE}{H:aC}{K KP:KE}{Q Q':aE}
theorem cX{sb:Nat}{s:aH}:aA H (stA Q sb s::F)↔∃p:SAd,aA H (cellsA sb (dr s p) 145::Ro.rollC p.rb p.rm s.cfg.agents::Ro.mapE p.rm s.rows::Ma.markC p.mb p.mm s.ms::Ma.mapF p.mm s.ms.m::shC p.hb p.hm s.cfg.cells::cz p.hm s.cm::strmA Q p.tm s.sts::slA 164 74 p.ka s.kept.length p.kc (flat cJ s.kept)::F):=by
 constructor
 .intro h;obtain⟨p,h⟩:=cK.1 h;exact⟨p,aA.open h⟩
 .rintro⟨p,h⟩;exact cK.2 ⟨p,aA.shut (stLZZ Q sb s p) h⟩
theorem Kp{tm:Nat}{sts:List (Option br)}(hs:aM Q Q')(h:aA H (strmA Q tm sts::F)):aA H (strmA Q' tm sts::F):=by
 obtain⟨bl,a,h⟩:=ld.1 h;have h:=h.o [1,0] 2;have h:=uy hs h;exact ld.2 ⟨bl,a,h.o [1,0] 2⟩
theorem qM{sb:Nat}{s:aH}(hs:aM Q Q')(h:aA H (stA Q sb s::F)):aA H (stA Q' sb s::F):=by
 obtain⟨p,h⟩:=cX.1 h;have h:=h.o [7,0,1,2,3,4,5,6,8] 9;have h:=Kp hs h;exact cX.2 ⟨p,h.o [1,2,3,4,5,6,7,0,8] 9⟩
theorem TB{a:KQ}{c:Nat}{evs:List Ev}(h:aA H (Q::F))(Z:∀H,aA H (Q::F)->aP H a (flat cx evs))(V:∀e∈evs,im Q e)(W:evs.length<=1000000)(G:∀e∈evs,e.labs.length<=1000000)
  (k:∀Q' I M b C,aM Q Q'->b.map Ev.p=evs.map Ev.p->(∀e∈b,im Q' e)->aA C (Q'::slA 99 4 I b.length M (flat cx b)::F)->K (.slice I b.length M) C) :
  CF 154 #[.slice a evs.length c] H K:=by
 refine OP ?_;refine SE h Z W λa1 c1 H1 h=>⟨_,_,_,rfl,?_⟩
 refine⟨λi C=>∃(j:Nat) (Q':aE) (b:List Ev),i=j/\j<=evs.length/\aM Q Q'/\b.map Ev.p=evs.map Ev.p/\(∀q (u:q<b.length),q<j->im Q' b[q])/\(∀q (u:q<b.length) (A:q<evs.length),j<=q->b[q]=evs[q])/\
  aA C (Q'::slA 99 4 a1 evs.length c1 (flat cx b)::F),λi _=>evs.length-i.toNat,
  ⟨0,Q,evs,rfl,by omega,aM.refl Q,rfl,λq _ h=>by omega,λ_ _ _ _=>rfl,h.o [1,0] 2⟩,?_⟩
 rintro i H2 ⟨j,Q',b,rfl,hj,m,f,t,n,h⟩;have B:b.length=evs.length:=by have:=congrArg List.length f;simpa using this
 refine⟨λD=>?_,λD=>?_⟩
 .have s:j<evs.length:=by have:=V8 D;omega
  have d:j<b.length:=by omega
  have J:=h.sl_rd 1 rfl;have y:=n j d s (VF _);refine⟨by omega,_,_,J.some fG (by omega) d,_,_,_,(by
   have:=J.el fG d 3 (v:=.slice b[j].la b[j].labs.length b[j].lc) rfl;rw[show aS a1+((j:Nat):Int).toNat*4+2+1=aS a1+j*4+3 by simp];exact this),?_⟩
  rw[y];refine SP h (λH h=>((V _ (VL s)).sub m).at h 0 rfl) (G _ (VL s)) λS a2 c2 H3 w E h=>⟨_,_,_,rfl,by omega,?_⟩
  obtain⟨Y,N,L⟩:=h.sl_set 1 rfl (j*4+3) [.slice a2 evs[j].labs.length c2] (by rw[fg fG];simp;omega) (by simp);refine⟨_,_,Y,by rw[show aS a1+((j:Nat):Int).toNat*4+2+1=aS a1+(j*4+3) by simp[Wy]];exact N,?_⟩;intro H4 U;rw[aJ (x:=(j:Int)+1)];have e:=yG fG (⟨evs[j].stamp,evs[j].value,evs[j].name,evs[j].labs,a2,c2⟩:Ev) [.slice a2 evs[j].labs.length c2] 3 (xs:=b) (k:=j) d (by simp) (by rw[y];rfl);rw[e]at L;refine⟨⟨j+1,S,b.set j ⟨evs[j].stamp,evs[j].value,evs[j].name,evs[j].labs,a2,c2⟩,by omega,s,m.trans w,?_,λq u O=>?_,λq u A R=>?_,?_⟩,by dsimp only;omega⟩
  .rw [Yq,f];apply W9
   .simp
   .intro q h5 h6;rw[List.getElem_set]
    split
    .rename_i e5;subst e5;simp[Ev.p]
    .rfl
  .rw [List.getElem_set]
   split
   .exact E
   .exact (t q (by simpa using u) (by omega)).sub w
  .rw [List.getElem_set,nO];exact n q (by simpa using u) A (by omega)
  .rw [U,show aS a1+((j:Nat):Int).toNat*4+2+1=aS a1+(j*4+3) by simp[Wy]];exact L
 .have P:evs.length<=j:=by have:=V9 D;omega
  rw[<-B]at h ⊢;exact k Q' a1 c1 b _ m f (λe T=>by
   obtain⟨q,u,rfl⟩:=Wz T;exact t q u (by omega)) h
end
def Pv.z:Pv:=⟨0,0,⟨#[]⟩,[]⟩
structure JS where
 st:br
 ms:MS
 cm:CM
def uB(c:bD)(now a ep seq:Int)(x:JS)(e:Pv):JS×bH:=
 (⟨(eD c now a x.st x.ms x.cm e).st,(eD c now a x.st x.ms x.cm e).ms,(eD c now a x.st x.ms x.cm e).cm⟩,
  { kind:=3,ida:=a,ide:=ep,seq:=seq,reason:=(eD c now a x.st x.ms x.cm e).reason,win:=(eD c now a x.st x.ms x.cm e).win,gap:=(eD c now a x.st x.ms x.cm e).gap })
def dh(c:bD)(now a ep first:Int)(evs:List Pv)(x:JS):Nat->JS×List bH
 | 0=>(x,[])
 | n+1=>((uB c now a ep (first+n) (dh c now a ep first evs x n).1 (evs.getD n Pv.z)).1,(dh c now a ep first evs x n).2++[(uB c now a ep (first+n) (dh c now a ep first evs x n).1 (evs.getD n Pv.z)).2])
def kF(s:aH)(r:Rp)(st:br):JS×List bH:=dh s.cfg r.nw r.ag r.ep st.hs.next (st.hs.offer r.nx r.evs).2.1 ⟨{ st with hs:=(st.hs.offer r.nx r.evs).1 },s.ms,s.cm⟩ (st.hs.offer r.nx r.evs).2.1.length
def gD(s:aH)(r:Rp):aH×List bH:=match s.sts[r.ag.toNat]? with
 | some (some st)=>({ s with now:=r.nw,ms:=(kF s r st).1.ms,cm:=(kF s r st).1.cm,sts:=s.sts.set r.ag.toNat (some (kF s r st).1.st) },
   (kF s r st).2++[{ kind:=2,agent:=r.ag,epoch:=r.ep,next:=(st.hs.offer r.nx r.evs).1.next }])
 | _=>(s,[])
theorem xu(c:bD)(now a:Int)(st:br)(ms:MS)(cm:CM)(e:Pv):(eD c now a st ms cm e).st.ck=st.ck/\(eD c now a st ms cm e).st.hs=st.hs/\
  ((eD c now a st ms cm e).st.last=st.last\/(eD c now a st ms cm e).st.last=e.stamp):=by
 unfold eD
 split
 .exact⟨rfl,rfl,.inl rfl⟩
 split
 .exact⟨rfl,rfl,.inr rfl⟩
 split
 .exact⟨rfl,rfl,.inr rfl⟩
 split
 .exact⟨rfl,rfl,.inr rfl⟩
 split <;> exact⟨rfl,rfl,.inr rfl⟩
theorem AY(g:Gd)(t:Int):aF (fN g t):=by
 unfold fN
 split
 .split <;> exact i64in _
 .unfold aF;decide
theorem Kq(g:Gd)(x:Gp):aF (dM g x).1/\aF (dM g x).2.1:=by
 unfold dM
 split
 .split
  .exact⟨AY _ _,AY _ _⟩
  .unfold aF;decide
 .unfold aF;decide
theorem wf_pick(g:Gd)(x:Gp):aF (mG g x).1:=by
 have h:=Kq g x;have z:aF 0:=by unfold aF;decide
 unfold mG
 split
 .exact z
 split
 .exact z
 split
 .exact h.1
 split
 .exact h.2
 split
 .exact AY _ _
 split
 .exact z
 .exact h.1
theorem TD{c:bD}{now a:Int}{st:br}{ms:MS}{cm:CM}{e:Pv}(h:dX c.cells cm)(f:aF e.value):dX c.cells (eD c now a st ms cm e).cm:=by
 have b:=Kq c.gd (cQ st.ck (bF ms a) now e.stamp).1;have d:=wf_pick c.gd (cQ st.ck (bF ms a) now e.stamp).1;unfold eD
 split
 .exact h
 split
 .exact h
 split
 .exact h
 split
 .exact xr h b.1 b.2
 split
 .exact xr h b.1 b.2
 .exact T8 (xr h b.1 b.2) f d
theorem AZ{c:bD}{now a ep first:Int}{evs:List Pv}{x:JS}(h:dX c.cells x.cm)(f:∀e∈evs,aF e.value):∀n,n<=evs.length->
  dX c.cells (dh c now a ep first evs x n).1.cm/\(dh c now a ep first evs x n).1.st.ck=x.st.ck/\(dh c now a ep first evs x n).1.st.hs=x.st.hs/\(dh c now a ep first evs x n).2.length=n
 | 0,_=>⟨h,rfl,rfl,rfl⟩
 | n+1,hn=>by
  have b:=AZ (now:=now) (a:=a) (ep:=ep) (first:=first) h f n (by omega);have d:=xu c now a (dh c now a ep first evs x n).1.st (dh c now a ep first evs x n).1.ms (dh c now a ep first evs x n).1.cm (evs.getD n Pv.z);refine⟨TD b.1 ?_,d.1.trans b.2.1,d.2.1.trans b.2.2.1,?_⟩
  .rw [ow _ (by omega)];exact f _ (VL _)
  .show (_++[_]).length=_;rw[V7,b.2.2.2];rfl
structure oB(Q:aE)(F:List aE)(r:Rp)(a:KQ)(evs:List Ev):Prop where
 eq:r.evs=evs.map Ev.p
 rd:∀H,aA H F->aP H a (flat cx evs)
 labs:∀e∈evs,im Q e
 len:evs.length<=1000000
 vals:∀e∈r.evs,aF e.value
section
variable {F L:List aE}{H:aC}{K KP:KE}{Q Q':aE}
theorem evOk_len{e:Pv}(h:gS e=true):e.labs.length<=8:=by
 unfold gS at h;rw[VB]at h
 conv=>whnf
 exact (mJ h.2).len
theorem TE{sb:Nat}{s:aH}{r:Rp}{a:KQ}{c:Nat}{evs:List Ev}{st:br}(ok:cR s)(l6:0<=r.ag)(C:s.sts[r.ag.toNat]?=some (some st))(E:oB Q F r a evs)(h7:∀e∈r.evs,gS e=true)
  (j3:evs.length<=64) (h:aA H (Q::stA Q sb s::F))
  (k:∀Q' a' c' H',aM Q Q'->aA H' (Q'::slA 305 87 a' (gD s r).2.length c' (flat dP (gD s r).2)::stA Q' sb (gD s r).1::F)->K (.slice a' (gD s r).2.length c') H') :
  CF 70 #[PA sb 0,.agg ⟨de r a c⟩] H K:=by
 have P:((r.ag.toNat:Nat):Int)=r.ag:=by omega
 have f:=ok.sts st (Wk C);have j1:r.evs.length=evs.length:=by rw[E.eq,VM]
 unfold gD at k;rw[C]at k;dsimp only at k;refine OZ ?_;refine h.al λb _ h=>⟨_,h.r 0,?_⟩
 have h:=h.o [2,1,0] 3;obtain⟨p,h⟩:=cX.1 h;refine h.st 0 rfl rfl ?_;intro H1 h;have h:=h.o [7,0,1,2,3,4,5,6,8,9,10] 11;obtain⟨S,bl,A,h⟩:=qK h C;have h:=h.o [1,0,2,3,4,5,6,7,8,9,10,11,12] 13;obtain⟨cb,hb,h⟩:=gV.1 h;have B:=qL A h 3 rfl;rw[P]at B;refine⟨_,h.r 5,_,h.r 14,_,B,cZ ⟨_,h.r 0,_,ur (h.o [2] 3),cZ ⟨_,h.r 0,_,h.r 14,_,_,_,h.r 14,?_⟩⟩⟩;have h:=h.o [13,0,1,2,3,4,5,6,7,8,9,10,11,12,14] 15;rw[j1];refine TB h (λH h=>E.rd H (h.o [] 15)) E.labs (by omega) (λe Z=>?_) λI a1 c1 v H2 D U j2 h=>⟨_,_,_,rfl,h.r 15,h.r 2,?_⟩
 .have:=evOk_len (h7 e.p (by rw[E.eq];exact VH.2 ⟨e,Z,rfl⟩));show e.p.labs.length<=1000000;omega
 have l5:v.length=evs.length:=by have:=congrArg List.length U;simpa using this
 have h:=h.o [4,0,1,2,3,5,6,7,8,9,10,11,12,13,14,15] 16;have h:=AA D h;have W:v.map Ev.p=r.evs:=by rw[U,E.eq]
 refine J4 (items:=v) h f.hs (by have:=f.next;omega) (λH h=>h.sl_rd 1 rfl) j2 (by omega) λa2 c2 ready H3 t Y h=>⟨_,_,_,_,rfl,?_⟩
 rw[W]at t h;have N:(st.hs.offer r.nx r.evs).2.1.length=ready.length:=by rw[<-t,VM]
 unfold kF at k;rw[N]at k;generalize hO:st.hs.offer r.nx r.evs=O at *;have hv:∀e∈O.2.1,aF e.value:=by
  intro e Z;rw[<-hO]at Z
  rcases (uq (s:=st.hs) (first:=r.nx) (items:=r.evs)).1 e Z with h|⟨q,h,rfl⟩
  .exact E.vals e h
  .exact (f.rows q h).2.2
 have r8:ready.length<=1000000:=by
  have h1:=J3 (s:=st.hs) (first:=r.nx) (items:=r.evs);rw[hO,N]at h1;have h2:=f.hs.rows.length;have h3:=f.hs.most2;omega
 have R:=λn hn=>AZ (c:=s.cfg) (now:=r.nw) (a:=r.ag) (ep:=r.ep) (first:=st.hs.next) (evs:=O.2.1) (x:=⟨{ st with hs:=O.1 },s.ms,s.cm⟩) ok.sh hv n hn
 generalize hG:dh s.cfg r.nw r.ag r.ep st.hs.next O.2.1 ⟨{ st with hs:=O.1 },s.ms,s.cm⟩=G at *;refine⟨λla d lc i H'=>∃j:Nat,i=j/\j<=ready.length/\d=j/\
  aA H' (cellsA sb (dr { s with now:=r.nw } p) 145::Ma.markC p.mb p.mm (G j).1.ms::Ma.mapF p.mm (G j).1.ms.m::shC p.hb p.hm s.cfg.cells::cz p.hm (G j).1.cm::cellsA S [PA cb 0,PA hb 0,aD (G j).1.st.last] 173::ckA cb st.ck::
   slA 305 87 la j lc (flat dP (G j).2)::slA 99 4 a2 ready.length c2 (flat cx ready)::hldA I hb O.1::I::mapA aD ptV p.tm (cW 0 bl)::lR Q bl s.sts r.ag.toNat::Ro.rollC p.rb p.rm s.cfg.agents::Ro.mapE p.rm s.rows::slA 164 74 p.ka s.kept.length p.kc (flat cJ s.kept)::cellsA b (de r a c) 61::F),
  λ_ _ _ i _=>ready.length-i.toNat,⟨0,rfl,by omega,rfl,?_⟩,?_⟩
 .have h0:G 0=(⟨{ st with hs:=O.1 },s.ms,s.cm⟩,[]):=by rw[<-hG];rfl
  rw[h0];exact (h.sl_nil 305 87).o [9,12,13,14,15,5,6,0,1,2,3,7,8,10,11,16,17] 18
 rintro la d lc i H4 ⟨j,rfl,hj,rfl,h⟩;obtain⟨h9,y,h8,V⟩:=R d (by omega);refine⟨λhc=>?_,λhc=>?_⟩
 .have w:d<ready.length:=by have:=V8 hc;omega
  have L:=h.sl_rd 8 rfl;refine⟨by omega,_,_,L.some fG (by omega) w,_,_,_,_,_,_,L.els fG w,?_⟩;refine h.al λb2 _ h=>?_
  refine h.st 0 rfl rfl ?_;intro H5 h;refine⟨_,h.r 17,_,_,_,_,_,_,h.q 0,?_⟩;have h:=h.o [1,2,3,4,5,6,7,0,8,9,10,11,12,13,14,15,16,17] 18;have h6:O.2.1.getD d Pv.z=ready[d].p:=by
   rw[ow _ (by omega)];simp only[<-t,W3]
  have h4:aF ready[d].value:=by
   have:=hv ready[d].p (by rw[<-t];exact VH.2 ⟨_,VL w,rfl⟩);exact this
  have M:(G d).1.st.ck.smps.length<=8:=by rw[y];exact f.ck.len
  rw[<-show (G d).1.st.ck=st.ck from y]at h;refine TA (c:=s.cfg) (now:=r.nw) (a:=r.ag) (st:=(G d).1.st) (e:=ready[d]) (mm:=p.mm) (p_mb:=p.mb) (p_hb:=p.hb) (p_hm:=p.hm) M h9 h4 rfl rfl rfl rfl (λH h=>(Y _ (VL w)).at h 4 rfl) h λH6 h=>⟨_,_,_,_,rfl,?_⟩
  rw[show (G d).1.st.ck=st.ck from y]at h;have T:G (d+1)=((uB s.cfg r.nw r.ag r.ep (st.hs.next+d) (G d).1 ready[d].p).1,(G d).2++[(uB s.cfg r.nw r.ag r.ep (st.hs.next+d) (G d).1 ready[d].p).2]):=by
   rw[<-h6,<-hG];rfl
  unfold uB at T;generalize eD s.cfg r.nw r.ag (G d).1.st (G d).1.ms (G d).1.cm ready[d].p=J at *;refine h.al λb3 _ h=>?_
  refine h.al λb4 _ h=>?_
  refine h.st 1 rfl rfl ?_;intro H7 h;refine h.st 0 rfl rfl ?_;intro H8 h;refine⟨_,h.r 19,_,h.r 19,?_⟩;refine h.al λb5 _ h=>?_
  refine h.st 0 rfl rfl ?_;intro H9 h;refine⟨_,_,_,h.q 0,_,_,h.q 2,_,_,h.q 1,?_⟩;refine h.al λb6 _ h=>?_
  have r0:=f.next;have l0:=f.hs.next0;have hw:i64.wrap (st.hs.next+(d:Int))=st.hs.next+d:=aJ;rw[hw]at h;refine h.append (m:=1) (ws:=dP { kind:=3,ida:=r.ag,ide:=r.ep,seq:=st.hs.next+d,reason:=J.reason,win:=J.win,gap:=J.gap }) sl39 12 rfl (h.ce_rd 0 rfl) rfl (uA _) (by omega) (by omega) λa5 c5 u h=>⟨_,_,_,rfl,?_⟩
  rw[aJ (x:=(d:Int)+1)];refine⟨⟨d+1,by omega,w,rfl,?_⟩,by dsimp only;omega⟩;rw[T];have e:flat dP ((G d).2++[{ kind:=3,ida:=r.ag,ide:=r.ep,seq:=st.hs.next+d,reason:=J.reason,win:=J.win,gap:=J.gap }])=flat dP (G d).2++dP { kind:=3,ida:=r.ag,ide:=r.ep,seq:=st.hs.next+d,reason:=J.reason,win:=J.win,gap:=J.gap }:=by
   rw[dS];simp[flat]
  dsimp only;rw[e];exact h.o [4,5,6,7,8,9,10,12,13,14,15,16,17,18,19,20,21] 22
 .have h5:d=ready.length:=by have:=V9 hc;omega
  subst h5;refine⟨_,h.r 16,_,h.r 16,cZ ⟨_,h.r 5,_,ur (h.o [9] 10),?_⟩⟩;refine h.al λb7 _ h=>?_
  refine h.append (m:=1) (ws:=dP { kind:=2,agent:=r.ag,epoch:=r.ep,next:=O.1.next }) sl39 8 rfl (h.ce_rd 0 rfl) rfl (uA _) (by omega) (by omega) λa5 c5 u h=>⟨_,_,_,rfl,?_⟩
  have e:flat dP ((G ready.length).2++[{ kind:=2,agent:=r.ag,epoch:=r.ep,next:=O.1.next }])=flat dP (G ready.length).2++dP { kind:=2,agent:=r.ag,epoch:=r.ep,next:=O.1.next }:=by
   rw[dS];simp[flat]
  have hk:=k I a5 c5 u D;rw[V7,V,e]at hk;refine hk ?_;have h:=h.o [13,6,7,10,12,1,14,15,2,3,4,5,16,11,8] 18;have h:aA u (lR I bl s.sts r.ag.toNat::_):=uy D h;have h:=h.o [1,2,3,4,0,5,6,7,8,9,10,11,12,13,14] 15;have h:aA u (strA I S (G ready.length).1.st::_):=gV.2 ⟨cb,hb,by rw[y,h8];exact h⟩;have h:=h.o [1,0,2,3,4,5,6,7,8,9,10,11,12] 13;have h:=sF A h;have h:=h.o [1,2,3,4,5,6,7,0,8,9,10] 11;have h:aA u (stA I sb { s with now:=r.nw,ms:=(G ready.length).1.ms,cm:=(G ready.length).1.cm,sts:=s.sts.set r.ag.toNat (some (G ready.length).1.st) }::_):=cX.2 ⟨p,h⟩;exact h.o [1,2,0] 3
end
def Ot.z:Ot:=(⟨0,⟨#[]⟩⟩,Cl.z)
def dQ(first:Int)(outs:List Ot):Nat->List bH
 | 0=>[]
 | n+1=>dQ first outs n++[{ kind:=4,number:=first+n,out:=outs.getD n Ot.z }]
theorem nV(first:Int)(a:List Ot):∀n,(dQ first a n).length=n
 | 0=>rfl
 | n+1=>by
  show (dQ first a n++[_]).length=_;rw[V7,nV first a n];rfl
abbrev aH.next(s:aH):Int:=s.sunk+(s.kept.length:Int)
def dt(s:aH)(now:Int):List Ot:=iC s.cm (fN s.cfg.gd (s.ms.tick now).1.value)
def kG(s:aH)(now:Int):aH×List bH:=
 ({ s with now:=now,ms:=(s.ms.tick now).1,cm:=nP s.cm (fN s.cfg.gd (s.ms.tick now).1.value),kept:=s.kept++dt s now },dQ s.next (dt s now) (dt s now).length)
def lT(s:aH)(r:Rp):aH:=match s.sts[r.ag.toNat]? with
 | some (some st)=>if r.nx≠st.hs.next\/r.st<st.last\/st.ck.held=true then { s with now:=r.nw } else
   if (cQ st.ck (bF s.ms r.ag) r.nw r.st).2≠0 then { s with now:=r.nw } else
   { s with now:=r.nw,ms:=(s.ms.raise r.ag (cQ st.ck (bF s.ms r.ag) r.nw r.st).1.lo).1,sts:=s.sts.set r.ag.toNat (some { st with last:=r.st }) }
 | _=>s
section
variable {F L:List aE}{H:aC}{K KP:KE}{Q Q':aE}
theorem Kr{sb:Nat}{s:aH}{p:SAd}(h:aA H F)(i:Nat)(a:aW i F=cellsA sb (dr s p) 145)(h0:0<=s.sunk)(hs:s.sunk<=4611686018427387903)(b:s.kept.length<=1000000000000) :
  bV Tryz.prog 140 #[PA sb 0] H (aD s.next):=by
 refine cM 140 28 ⟨_,h.rd i a _,_,_,_,h.rd i a _,?_,rfl⟩;rw[aJ];rfl
theorem Tick_spec{sb:Nat}{s:aH}{now:Int}(ok:cR s)(hs:s.sunk<=4611686018427387903)(J:s.kept.length<=100000000000)(h:aA H (stA Q sb s::F))
  (k:∀w B f,aA f (slA 305 87 w (kG s now).2.length B (flat dP (kG s now).2)::stA Q sb (kG s now).1::F)->K (.slice w (kG s now).2.length B) f) :
  CF 72 #[PA sb 0,aD now] H K:=by
 obtain⟨p,h⟩:=cX.1 h;refine OX ?_;refine h.st 0 rfl rfl ?_;intro P h;refine⟨_,h.r 0,?_⟩;have h:=h.o [3,4,0,1,2,5,6,7,8] 9;refine Ma.Tick_spec ok.ms h λY h=>⟨_,rfl,_,h.r 2,_,_,_,h.q 2,_,h.r 2,_,Ma.Value_spec h 0 rfl,?_⟩
 unfold kG dt at k;generalize hM:(s.ms.tick now).1=M at *;refine wH (g:=s.cfg.gd) h λT h=>⟨_,rfl,h.r 2,?_⟩
 have I:=ok.sh.len;have E:=ok.sh.m2;generalize fN s.cfg.gd M.value=W at *;have h:=h.o [5,6,0,1,2,3,4,7,8] 9;refine Sp (by omega) h λG D H4 h=>⟨_,_,_,rfl,?_⟩
 have L:(iC s.cm W).length<=1024:=by
  have V:(iC s.cm W).length<=(bA s.cm).length:=by unfold iC;exact (List.takeWhile_sublist _).length_le
  have N:(bA s.cm).length=s.cm.length:=by unfold bA;rw[VM,uk];simp[aG]
  omega
 generalize hO:iC s.cm W=O at *;generalize nP s.cm W=C at *;refine⟨λla a lc i f=>∃(j:Nat) (ka:KQ) (kc:Nat),i=j/\j<=O.length/\a=j/\
  aA f (slA 305 87 la j lc (flat dP (dQ s.next O j))::slA 164 74 G O.length D (flat cJ O)::cellsA sb (dr { s with now:=now,kept:=s.kept++O.take j } { p with ka:=ka,kc:=kc }) 145::Ro.rollC p.rb p.rm s.cfg.agents::Ro.mapE p.rm s.rows::Ma.markC p.mb p.mm M::Ma.mapF p.mm M.m::shC p.hb p.hm s.cfg.cells::cz p.hm C::strmA Q p.tm s.sts::
   slA 164 74 ka (s.kept++O.take j).length kc (flat cJ (s.kept++O.take j))::F),
  λ_ _ _ i _=>O.length-i.toNat,⟨0,p.ka,p.kc,rfl,by omega,rfl,?_⟩,?_⟩
 .rw [Yi,We];exact (h.sl_nil 305 87).o [0,1,6,7,8,4,5,2,3,9,10] 11
 rintro la a lc i y ⟨j,ka,kc,rfl,U,rfl,h⟩;have c:(O.take a).length=a:=by rw[VY];omega
 refine⟨λu=>?_,λu=>?_⟩
 .have b:a<O.length:=by have:=V8 u;omega
  have d:=h.sl_rd 1 rfl;have e:=d.els iW b;refine⟨by omega,_,_,d.some iW (by omega) b,_,_,_,_,_,_,_,_,_,_,e,?_⟩;refine h.al λb1 _ h=>?_
  refine h.sta 0 rfl rfl λR h=>?_
  have n:=ok.sunk;refine⟨_,Kr (s:=({ s with now:=now,kept:=s.kept++O.take a }:aH)) (p:={ p with ka:=ka,kc:=kc }) h 3 rfl n hs (by show (s.kept++O.take a).length<=_;rw[V7,c];omega),?_⟩;have t:({ s with now:=now,kept:=s.kept++O.take a }:aH).next=s.next+a:=by
   show s.sunk+((s.kept++O.take a).length:Int)=s.sunk+(s.kept.length:Int)+a;rw[V7,c];omega
  rw[t];refine⟨_,_,_,_,_,_,_,_,_,_,h.rda 0 rfl,?_⟩;refine h.al λb2 _ h=>?_
  refine h.append (m:=1) (ws:=dP { kind:=4,number:=s.next+a,out:=O[a] }) sl39 2 rfl (h.ce_rd 0 rfl) rfl (uA _) (by omega) (by omega) λa5 c5 H7 h=>⟨_,_,_,rfl,?_⟩
  refine⟨_,_,_,h.r 4,_,_,_,_,_,_,_,_,_,_,h.rda 1 rfl,?_⟩;refine h.al λb3 _ h=>⟨h.r 5,?_⟩
  refine h.append (m:=1) (ws:=cJ O[a]) sl86 13 rfl (h.ce_rd 0 rfl) rfl (sf _) (by rw[V7,c];omega) (by rw[V7,c];omega) λa6 c6 Z h=>⟨_,_,_,rfl,?_⟩
  refine h.st 5 rfl rfl ?_;intro S h;rw[aJ (x:=(a:Int)+1)];refine⟨⟨a+1,a6,c6,by omega,b,rfl,?_⟩,by dsimp only;omega⟩;have e1:dQ s.next O (a+1)=dQ s.next O a++[{ kind:=4,number:=s.next+a,out:=O[a] }]:=by
   show dQ s.next O a++[({ kind:=4,number:=s.next+a,out:=O.getD a Ot.z }:bH)]=_;rw[ow _ b]
  have e2:flat dP (dQ s.next O (a+1))=flat dP (dQ s.next O a)++dP { kind:=4,number:=s.next+a,out:=O[a] }:=by
   rw[e1,dS];simp[flat]
  have e3:s.kept++O.take (a+1)=(s.kept++O.take a)++[O[a]]:=by rw[Wn b,VK]
  have e4:flat cJ (s.kept++O.take (a+1))=flat cJ (s.kept++O.take a)++cJ O[a]:=by
   rw[e3,dS];simp[flat]
  have e5:(s.kept++O.take (a+1)).length=(s.kept++O.take a).length+1:=by rw[e3,V7];rfl
  have e6:dr ({ s with now:=now,kept:=s.kept++O.take (a+1) }:aH) { p with ka:=a6,kc:=c6 }=cv (dr ({ s with now:=now,kept:=s.kept++O.take a }:aH) { p with ka:=ka,kc:=kc }) 19 [.slice a6 ((s.kept++O.take a).length+1) c6]:=by
   simp only[dr,e5];rfl
  rw[e2,e4,e5,e6];exact h.o [3,4,5,6,7,8,9,10,11,12,13] 14
 .have v:a=O.length:=by have:=V9 u;omega
  subst v;rw[Wi]at h;have A:=k la lc y;rw[nV]at A;refine A ?_;have h:=h.o [2,3,4,5,6,7,8,9,10,0] 11;have h:aA y (stA Q sb { s with now:=now,ms:=M,cm:=C,kept:=s.kept++O }::_):=cX.2 ⟨{ p with ka:=ka,kc:=kc },h⟩;exact h.o [1,0] 2
theorem TF{sb:Nat}{s:aH}{r:Rp}{a:KQ}{c:Nat}{st:br}(ok:cR s)(C:0<=r.ag)(f:s.sts[r.ag.toNat]?=some (some st))(h:aA H (stA Q sb s::F))
  (k:∀v,aA v (stA Q sb (lT s r)::F)->K (.tuple #[]) v) :
  CF 71 #[PA sb 0,.agg ⟨de r a c⟩] H K:=by
 have x:((r.ag.toNat:Nat):Int)=r.ag:=by omega
 have y:=ok.sts st (Wk f);unfold lT at k;rw[f]at k;dsimp only at k;refine OY ?_;refine h.al λb _ h=>⟨_,h.r 0,?_⟩
 have h:=h.o [1,0] 2;obtain⟨p,h⟩:=cX.1 h;refine h.st 0 rfl rfl ?_;intro D h;have h:=h.o [7,0,1,2,3,4,5,6,8,9] 10;obtain⟨A,bl,u,h⟩:=qK h f;have h:=h.o [1,0,2,3,4,5,6,7,8,9,10,11] 12;obtain⟨cb,hb,h⟩:=gV.1 h;have n:=qL u h 3 rfl;rw[x]at n;have e:∀(ms:MS) (i:br) v,aA v (cellsA A [PA cb 0,PA hb 0,aD i.last] 173::ckA cb i.ck::hldA Q hb i.hs::mapA aD ptV p.tm (cW 0 bl)::lR Q bl s.sts r.ag.toNat::cellsA sb (dr { s with now:=r.nw } p) 145::Ro.rollC p.rb p.rm s.cfg.agents::Ro.mapE p.rm s.rows::Ma.markC p.mb p.mm ms::Ma.mapF p.mm ms.m::shC p.hb p.hm s.cfg.cells::cz p.hm s.cm::slA 164 74 p.ka s.kept.length p.kc (flat cJ s.kept)::F)->
   aA v (stA Q sb { s with now:=r.nw,ms:=ms,sts:=s.sts.set r.ag.toNat (some i) }::F):=by
  intro ms i v h;have h:=gV.2 ⟨cb,hb,h⟩;have h:=h.o [1,0,2,3,4,5,6,7,8,9,10] 11;have h:=sF u h;exact cX.2 ⟨p,h.o [1,2,3,4,5,6,7,0,8] 9⟩
 have j:s.sts.set r.ag.toNat (some st)=s.sts:=by
  have B:r.ag.toNat<s.sts.length:=(List.getElem?_eq_some_iff.1 f).1;have:s.sts[r.ag.toNat]=some st:=by rw[List.getElem?_eq_getElem B]at f;exact Option.some.inj f
  rw[<-this,WS]
 refine⟨_,h.r 5,_,h.r 13,_,n,_,h.r 13,cZ ⟨_,h.r 0,_,ur (h.o [2] 3),_,λ_=>h.r 13,λ_=>trivial,_,λ_=>h.r 0,λ_=>trivial,_,λ_=>h.rd 0 rfl 0,_,λ_=>ug (h.o [1] 2),λd=>?_,λd=>?_⟩⟩
 .have d:r.nx≠st.hs.next\/r.st<st.last\/st.ck.held=true:=by
   simp only[VR,Wb,VD,VA]at d
   rcases d with (d|d)|d
   .exact .inl d
   .exact .inr (.inl d)
   .exact .inr (.inr d)
  rw[V5 d]at k;have h:=e s.ms st _ (h.o [0,1,2,3,4,5,6,7,8,9,10,11,12] 14);rw[j]at h;exact k _ h
 have d:¬(r.nx≠st.hs.next\/r.st<st.last\/st.ck.held=true):=by
  simp only[VP,Wq,VD,VA]at d;rintro (w|w|w)
  .exact w d.1.1
  .exact d.1.2 w
  .rw [d.2]at w;cases w
 rw[V4 d]at k;refine⟨_,h.r 13,_,h.r 13,?_⟩;have h:=h.o [5,8,9,0,1,2,3,4,6,7,10,11,12,13] 14;refine Kl (a:=r.ag) (stamp:=r.st) (now:=r.nw) y.ck.len rfl rfl h λI h=>⟨_,_,_,rfl,?_⟩
 generalize cQ st.ck (bF s.ms r.ag) r.nw r.st=T at *;refine h.al λb1 _ h=>?_
 refine h.st 0 rfl rfl ?_;intro J h;refine⟨λd=>?_,λd=>?_⟩
 .rw [V5 (by simpa using d)]at k;have h:=e s.ms st _ (h.o [4,5,6,7,8,1,9,10,2,3,11,12,13] 15);rw[j]at h;exact k _ h
 .rw [V4 (by simpa using d)]at k;refine⟨_,h.r 14,cZ ?_⟩;refine h.st 4 rfl rfl ?_;intro G h;refine⟨_,h.r 1,_,h.r 14,_,h.r 0,?_⟩;have h:=h.o [2,3,0,1,4,5,6,7,8,9,10,11,12,13,14] 15;refine Ma.Raise_spec (a:=r.ag) (t:=T.1.lo) h λE h=>⟨_,rfl,?_⟩
  exact k _ (e _ { st with last:=r.st } _ (h.o [4,5,6,7,8,3,9,10,0,1,11,12,13] 15))
end
def isE(s:aH)(a ep:Int):Bool:=decide (0<(bg s.rows a).epoch)&&decide ((bg s.rows a).epoch=ep)
def dL(s:aH)(a:Int):Option br:=if a<0 then none else (s.sts[a.toNat]?).join
def sH(s:aH)(r:Rp)(now:Int):Int:=
 if 0<r.ep/\isE s r.ag r.ep=false then 22 else
 if now<s.now then 11 else
 if r.kind=4 then (match dL s r.ag with
  | some st=>if st.ck.smps.length=0/\st.ck.held=false then 19 else 0
  | none=>0) else 0
def fA(s:aH)(r:Rp):Int:=
 if r.kind=1 then (if 1099511627776<=s.boots then 17 else 0) else
 if r.kind=7 then (if s.next<r.nx then 11 else 0) else
 sH s r (if r.kind=3 then r.sm.came else r.nw)
structure RLim(r:Rp):Prop where
 kind:1<=r.kind/\r.kind<=7
 ag:0<=r.ag/\r.ag<=63
 ep:(r.kind=3\/r.kind=4\/r.kind=5->1<=r.ep)/\0<=r.ep/\r.ep<=1099511627776
 bt:(r.kind=2->1<=r.bt)/\0<=r.bt/\r.bt<=1099511627776
 nx:0<=r.nx/\r.nx<=1099511627776
 st:0<=r.st/\r.st<=4611686018427387903
 nw:isT r.nw
 sm:r.sm.ok
 evs:r.kind=4->gT r.nx r.evs=true
 none:r.kind≠4->r.evs=[]
theorem iF{r:Rp}(h:r.right=true):RLim r:=by
 unfold Rp.right at h;rw[VB,VB,VB]at h;obtain⟨⟨⟨j,s⟩,c⟩,i⟩:=h;unfold Rp.lim at i;simp only[inM,VB,VA]at j i;obtain⟨⟨⟨⟨⟨⟨n,b⟩,d⟩,m⟩,k⟩,e⟩,f⟩:=i;refine⟨j,n,⟨λa=>?_,?_,b.2⟩,⟨λa=>?_,?_,d.2⟩,m,k,e,f,λa=>?_,λa=>?_⟩
 .rw [V5 a]at b;exact b.1
 .have:=b.1;split at this <;> omega
 .rw [V5 a]at d;exact d.1
 .have:=d.1;split at this <;> omega
 .rw [V5 a]at c;exact c
 .rw [V4 a]at c;exact WK.1 (V8 c)
theorem rowE_at{rows:List En}{a:Int}(h:0<(bg rows a).epoch):0<=a/\∃e,rows[a.toNat]?=some e/\0<e.epoch:=by
 unfold bg at h
 split at h
 .simp [En.z]at h
 .refine⟨by omega,?_⟩
  cases e:rows[a.toNat]? with
  | none=>rw[e]at h;simp[En.z]at h
  | some x=>rw[e]at h;exact⟨x,rfl,h⟩
theorem cR.str{s:aH}(ok:cR s){a:Int}(h:0<(bg s.rows a).epoch):0<=a/\∃st,s.sts[a.toNat]?=some (some st):=by
 obtain⟨h0,e,c,b⟩:=rowE_at h;exact⟨h0,(ok.reg a.toNat).2 ⟨e,c,b⟩⟩
theorem xv{s:aH}{a:Int}{st:br}(h0:0<=a)(h:s.sts[a.toNat]?=some (some st)):dL s a=some st:=by
 unfold dL;rw[nO,h];rfl
section
variable {F L:List aE}{H:aC}{K KP:KE}{Q Q':aE}
theorem TG{sb:Nat}{s:aH}{r:Rp}{a:KQ}{c:Nat}(ok:cR s)(hs:s.sunk<=4611686018427387903)(Z:s.kept.length<=100000000000)(W:r.right=true)(h:aA H (stA Q sb s::F))
  (k:∀i,aA i (stA Q sb s::F)->K (aD (fA s r)) i) :
  CF 65 #[PA sb 0,.agg ⟨de r a c⟩] H K:=by
 refine cN 65 0x1121513dc13dc17492283c9d2171b9c [[],[(44,sB)],[(5,sI)]] ?_;refine h.al λb H0 h=>⟨_,h.r 0,?_⟩
 have h:=h.o [1,0] 2;obtain⟨p,h⟩:=cX.1 h;have fin:∀i,aA i (cellsA sb (dr s p) 145::Ro.rollC p.rb p.rm s.cfg.agents::Ro.mapE p.rm s.rows::Ma.markC p.mb p.mm s.ms::Ma.mapF p.mm s.ms.m::shC p.hb p.hm s.cfg.cells::cz p.hm s.cm::strmA Q p.tm s.sts::slA 164 74 p.ka s.kept.length p.kc (flat cJ s.kept)::cellsA b (de r a c) 61::F)->aA i (stA Q sb s::F):=λi h=>by
  have h:=cX.2 ⟨p,h⟩;exact h.o [0] 2
 unfold fA at k;refine⟨_,h.r 9,λI=>?_,λI=>⟨λv=>?_,λv=>?_⟩⟩
 .rw [V5 (V8 I)]at k;refine⟨_,h.r 0,λhb=>?_,λhb=>?_⟩
  .rw [V5 (V8 hb)]at k;exact k _ (fin _ h)
  .rw [V4 (V9 hb)]at k;exact k _ (fin _ h)
 .rw [V4 (V9 I),V5 (V8 v)]at k;refine⟨_,h.r 9,_,Kr h 0 rfl ok.sunk hs (by omega),λhb=>?_,λhb=>?_⟩
  .rw [V5 (V8 hb)]at k;exact k _ (fin _ h)
  .rw [V4 (V9 hb)]at k;exact k _ (fin _ h)
 rw[V4 (V9 I),V4 (V9 v)]at k;have hL:=iF W;intro V U;have u:∀now,(∀i,aA i (stA Q sb s::F)->K (aD (sH s r now)) i)->V now H0:=by
  intro now k;refine U _ _ ?_;intro N J;unfold sH at k;have E:∀(t:Bool) i,t=decide (0<r.ep/\isE s r.ag r.ep=false)->aA i (cellsA sb (dr s p) 145::Ro.rollC p.rb p.rm s.cfg.agents::Ro.mapE p.rm s.rows::Ma.markC p.mb p.mm s.ms::Ma.mapF p.mm s.ms.m::shC p.hb p.hm s.cfg.cells::cz p.hm s.cm::strmA Q p.tm s.sts::slA 164 74 p.ka s.kept.length p.kc (flat cJ s.kept)::cellsA b (de r a c) 61::F)->N t i:=by
   rintro t i rfl h;refine J _ _ ?_;refine⟨λB=>?_,λB=>?_⟩
   .rw [V5 (V8 B)]at k;exact k _ (fin _ h)
   have B:=V9 B;rw[V4 B]at k;refine⟨_,h.r 0,λP=>?_,λP=>?_⟩
   .rw [V5 (V8 P)]at k;exact k _ (fin _ h)
   rw[V4 (V9 P)]at k;refine⟨_,h.r 9,?_⟩;intro Y G;refine⟨λA=>?_,λA=>?_⟩
   .have A:=V8 A;rw[V5 A]at k;have T:=hL.ep.1 (.inr (.inl A));have w:isE s r.ag r.ep=true:=by
     cases e:isE s r.ag r.ep
     .exact V6 ⟨by omega,e⟩ B
     .rfl
    unfold isE at w;rw[VB]at w;obtain⟨M,st,f⟩:=ok.str (V8 w.1);rw[xv M f]at k;dsimp only at k;have D:=ok.sts st (Wk f);have C:((r.ag.toNat:Nat):Int)=r.ag:=by omega
    have h:=h.o [7,0,1,2,3,4,5,6,8,9] 10;obtain⟨S,bl,n,h⟩:=qK h f;have h:=h.o [1,0,2,3,4,5,6,7,8,9,10,11] 12;obtain⟨cb,hb,h⟩:=gV.1 h;have j:=qL n h 3 rfl;rw[C]at j;have y:s.sts.set r.ag.toNat (some st)=s.sts:=by
     have O:r.ag.toNat<s.sts.length:=(List.getElem?_eq_some_iff.1 f).1;have:s.sts[r.ag.toNat]=some st:=by rw[List.getElem?_eq_getElem O]at f;exact Option.some.inj f
     rw[<-this,WS]
    conv=>whnf
    refine⟨_,h.r 5,_,h.r 13,_,j,⟨_,h.rd 0 rfl 0,?_⟩⟩;have h:=h.o [1,0,2,3,4,5,6,7,8,9,10,11,12,13] 14;have h0:=D.ck.len;refine Ab h (by omega) λsa sc R h=>⟨_,_,_,rfl,λ_=>trivial,_,λ_=>h.rd 2 rfl 0,_,λ_=>ug (h.o [1] 2),?_⟩
    have back:aA R (cellsA sb (dr s p) 145::Ro.rollC p.rb p.rm s.cfg.agents::Ro.mapE p.rm s.rows::Ma.markC p.mb p.mm s.ms::Ma.mapF p.mm s.ms.m::shC p.hb p.hm s.cfg.cells::cz p.hm s.cm::strmA Q p.tm s.sts::slA 164 74 p.ka s.kept.length p.kc (flat cJ s.kept)::cellsA b (de r a c) 61::F):=by
     have h:=h.o [2,1,3,4,5,6,7,8,9,10,11,12,13,14] 15;have h:=gV.2 ⟨cb,hb,h⟩;have h:=h.o [1,0,2,3,4,5,6,7,8,9,10,11] 12;have h:=sF n h;rw[y]at h;exact h.o [1,2,3,4,5,6,7,0,8,9] 10
    refine⟨λd=>?_,λd=>?_⟩
    .have d:st.ck.smps.length=0/\st.ck.held=false:=by
      simp only[VB,VA,Wb]at d;exact⟨by omega,d.2⟩
     rw[V5 d]at k;exact k _ (fin _ back)
    .have d:¬(st.ck.smps.length=0/\st.ck.held=false):=by
      rintro⟨h1,h2⟩;rw[h1,h2]at d;simp at d
     rw[V4 d]at k;refine G _ ?_;exact k _ (fin _ back)
   .rw [V4 (V9 A)]at k;refine G _ ?_;exact k _ (fin _ h)
  refine⟨_,h.r 9,λ_=>trivial,_,λ_=>h.r 0,_,λ_=>h.r 9,_,λ_=>h.r 9,λx=>?_,λx=>?_⟩
  .have x:=V8 x;have h:=h.o [1,2,0,3,4,5,6,7,8,9] 10;refine Ro.Is_spec ok.rows (agent:=r.ag) (epoch:=r.ep) h λR h=>⟨_,rfl,?_⟩
   refine E _ _ ?_ (h.o [2,0,1,3,4,5,6,7,8,9] 10);show (!isE s r.ag r.ep)=_;rw[Wp,VA]
   constructor
   .intro d;exact⟨x,by simpa using d⟩
   .rintro⟨_,d⟩;rw[d];rfl
  .have x:¬0<r.ep:=λd=>x (VS d)
   refine E _ _ ?_ h
   symm
   exact Ws λd=>x d.1
 refine⟨λL=>?_,λL=>?_⟩
 .rw [V5 (V8 L)]at k;exact⟨_,h.r 9,u _ k⟩
 .rw [V4 (V9 L)]at k;exact u _ k
end
def lU(c:bD):br:=⟨⟨c.rho,c.trust,false,0,[]⟩,⟨0,c.hold,[]⟩,-1⟩
def pC(a ep n:Int):bH:={ kind:=3,ida:=a,ide:=ep,seq:=n,reason:=5 }
def jq(s:aH)(a:Int):List bH:=match dL s a with
 | some st=>(aG st.hs.rows).map (pC a (bg s.rows a).epoch)
 | none=>[]
def gW(s:aH)(a:Int):MS:=match dL s a with
 | some _=>(s.ms.leave a).1
 | none=>s.ms
def fB(s:aH)(r:Rp):aH×List bH×Int:=
 if (grant s.cfg.agents s.rows r.ag r.bt r.nw).2.2.2≠0 then (s,[],(grant s.cfg.agents s.rows r.ag r.bt r.nw).2.2.2) else
 if (grant s.cfg.agents s.rows r.ag r.bt r.nw).2.2.1 then
  ({ s with now:=r.nw,rows:=(grant s.cfg.agents s.rows r.ag r.bt r.nw).1,ms:=((gW s r.ag).join r.ag r.nw).1,sts:=s.sts.set r.ag.toNat (some (lU s.cfg)) },
   jq s r.ag++[{ kind:=1,agent:=r.ag,epoch:=(grant s.cfg.agents s.rows r.ag r.bt r.nw).2.1.epoch,boot:=(grant s.cfg.agents s.rows r.ag r.bt r.nw).2.1.boot }],0)
 else ({ s with now:=r.nw,rows:=(grant s.cfg.agents s.rows r.ag r.bt r.nw).1 },[{ kind:=1,agent:=r.ag,epoch:=(grant s.cfg.agents s.rows r.ag r.bt r.nw).2.1.epoch,boot:=(grant s.cfg.agents s.rows r.ag r.bt r.nw).2.1.boot }],0)
theorem TH{most:Int}{rows:List En}{a b n:Int}(h:(grant most rows a b n).2.2.2≠0):(grant most rows a b n).1=rows:=by
 unfold grant at h ⊢
 split
 .rfl
 .rename_i i;rw[V4 i]at h;dsimp only at h ⊢
  split
  .rfl
  .rename_i c;rw[V4 c]at h
   split
   .rfl
   .rename_i e;rw[V4 e]at h
    split
    .rfl
    .rename_i f;rw[V4 f]at h
     split
     .rfl
     .rename_i d;rw[V4 d]at h;simp at h
section
variable {F L:List aE}{H:aC}{K KP:KE}{Q Q':aE}
theorem Ks{tm k b:Nat}{bl:List (Option Nat)}{sts:List (Option br)}{s:br}(hm:bl.map Option.isSome=sts.map Option.isSome)(d:k<sts.length)
  (h:aA H (mapA aD ptV tm (mset ((k:Nat):Int) (some b) (cW 0 bl))::strA Q b s::lR Q bl sts k::F)):aA H (strmA Q tm (sts.set k (some s))::F):=by
 have c:bl.length=sts.length:=by have:=congrArg List.length hm;simpa using this
 have e:=pB (Q:=Q) (b:=b) (s:=s) (bl:=bl.set k none) (sts:=sts.set k none) (k:=k) (by rw[List.getElem?_set_self (by omega)]) (by rw[List.getElem?_set_self (by omega)]);rw[Yr,Yr]at e;have a:=xo (b:=b) (l:=bl) (i:=0) (k:=k) (by omega);rw[VX]at a;rw[<-nC (r:=tm) a]at h;refine ld.2 ⟨bl.set k (some b),?_,?_⟩
 .rw [Yq,Yq,hm];rfl
 .rw [<-e];have h:=h.o [1,2,0] 3;have h:=gy.2 h;exact h.o [1,0] 2
theorem Kt{sb:Nat}{s:aH}{p:SAd}(ok:jB s.cfg)(h:aA H (cellsA sb (dr s p) 145::F))
  (k:∀b a,aA a (strA Q b (lU s.cfg)::cellsA sb (dr s p) 145::F)->K (PA b 0) a):CF 145 #[PA sb 0] H K:=by
 refine cM 145 4380 ?_;refine⟨_,h.r 0,_,h.r 0,?_⟩;refine Iz h (λc=>V6 ok.rate c) λ_ cb e h=>⟨_,_,rfl,_,h.r 1,?_⟩
 refine AB (Q:=Q) h (λc=>V6 ok.hd (by omega)) λhb d _ h=>⟨_,_,rfl,?_⟩
 refine h.al λb _ h=>?_
 refine k b _ (gV.2 ⟨cb,hb,?_⟩);exact h.o [0,2,1,3] 4
theorem Grant_spec{sb:Nat}{s:aH}{r:Rp}{a:KQ}{c:Nat}(ok:cR s)(hr:r.right=true)(l6:r.kind=2)(h:aA H (stA Q sb s::F))
  (k:∀L M y,aA y (slA 305 87 L (fB s r).2.1.length M (flat dP (fB s r).2.1)::stA Q sb (fB s r).1::F)->K (.tuple #[.slice L (fB s r).2.1.length M,aD (fB s r).2.2]) y) :
  CF 66 #[PA sb 0,.agg ⟨de r a c⟩] H K:=by
 have hL:=iF hr;have w:((r.ag.toNat:Nat):Int)=r.ag:=by have:=hL.ag;omega
 refine Pd ?_;refine h.al λb H0 h=>?_
 have h:=h.o [1,0] 2;obtain⟨p,h⟩:=cX.1 h;intro Jn hJ;have P:∀bb y,aA y (cellsA bb (encE (bg s.rows r.ag)) 149::cellsA sb (dr s p) 145::Ro.rollC p.rb p.rm s.cfg.agents::Ro.mapE p.rm s.rows::Ma.markC p.mb p.mm s.ms::Ma.mapF p.mm s.ms.m::shC p.hb p.hm s.cfg.cells::cz p.hm s.cm::strmA Q p.tm s.sts::slA 164 74 p.ka s.kept.length p.kc (flat cJ s.kept)::cellsA b (de r a c) 61::F)->Jn bb 0 y:=by
  intro bb H1 h;refine hJ _ _ _ ?_;intro h9 h8;unfold fB at k;have U:=TH (most:=s.cfg.agents) (rows:=s.rows) (a:=r.ag) (b:=r.bt) (n:=r.nw);have B:∀Y y,aA y (cellsA Y (encE (grant s.cfg.agents s.rows r.ag r.bt r.nw).2.1) 149::cellsA bb (encE (bg s.rows r.ag)) 149::cellsA sb (dr s p) 145::Ro.rollC p.rb p.rm s.cfg.agents::Ro.mapE p.rm (grant s.cfg.agents s.rows r.ag r.bt r.nw).1::Ma.markC p.mb p.mm s.ms::Ma.mapF p.mm s.ms.m::shC p.hb p.hm s.cfg.cells::cz p.hm s.cm::strmA Q p.tm s.sts::slA 164 74 p.ka s.kept.length p.kc (flat cJ s.kept)::cellsA b (de r a c) 61::F)->
    h9 Y 0 (grant s.cfg.agents s.rows r.ag r.bt r.nw).2.2.1 (grant s.cfg.agents s.rows r.ag r.bt r.nw).2.2.2 y:=by
   intro Y H2 h;refine h8 _ _ _ _ _ ?_;generalize grant s.cfg.agents s.rows r.ag r.bt r.nw=G at *;refine⟨λO=>?_,λO=>?_⟩
   .have O:G.2.2.2≠0:=by simpa using O
    rw[V5 O]at k;rw[U O]at h;have h:=h.o [2,3,4,5,6,7,8,9,10] 12;have h:=cX.2 ⟨p,h⟩;exact k none 0 _ (h.sl_nil 305 87)
   have O:¬G.2.2.2≠0:=by simpa using O
   rw[V4 O]at k;refine⟨_,h.r 11,?_⟩;refine h.st 2 rfl rfl ?_;intro H3 h;intro h6 j3;have fin:∀(d:List bH) (la:KQ) (lc:Nat) (s':aH) (p':SAd) y,d.length<=1000000->(∀L M A,aA A (slA 305 87 L (d.length+1) M (flat dP (d++[{ kind:=1,agent:=r.ag,epoch:=G.2.1.epoch,boot:=G.2.1.boot }]))::stA Q sb s'::F)->K (.tuple #[.slice L (d.length+1) M,aD 0]) A)->
     aA y (slA 305 87 la d.length lc (flat dP d)::cellsA Y (encE G.2.1) 149::cellsA b (de r a c) 61::stA Q sb s'::F)->h6 la d.length lc y:=by
    intro d la lc s' p' H4 h4 kk h;refine j3 _ _ _ _ ?_;refine⟨_,h.r 2,_,h.r 1,_,h.r 1,?_⟩;refine h.al λb1 _ h=>?_
    refine h.append (m:=1) (ws:=dP { kind:=1,agent:=r.ag,epoch:=G.2.1.epoch,boot:=G.2.1.boot }) sl39 1 rfl (h.ce_rd 0 rfl) rfl (uA _) (by omega) (by omega) λa5 c5 H5 h=>⟨_,_,_,rfl,?_⟩
    refine kk _ _ _ ?_;rw[dS,show flat dP [({ kind:=1,agent:=r.ag,epoch:=G.2.1.epoch,boot:=G.2.1.boot }:bH)]=dP { kind:=1,agent:=r.ag,epoch:=G.2.1.epoch,boot:=G.2.1.boot } by simp[flat]];exact h.o [1,4] 5
   refine⟨λZ=>?_,λZ=>?_⟩
   .rw [V5 Z]at k;have I:r.ag.toNat<s.sts.length:=by have:=ok.len;have:=hL.ag;omega
    have C:∀(bl:List (Option Nat)) (la:KQ) (lc:Nat) y,bl.map Option.isSome=s.sts.map Option.isSome->(jq s r.ag).length<=1000000->
      aA y (slA 305 87 la (jq s r.ag).length lc (flat dP (jq s r.ag))::mapA aD ptV p.tm (cW 0 bl)::lR Q bl s.sts r.ag.toNat::Ma.markC p.mb p.mm (gW s r.ag)::Ma.mapF p.mm (gW s r.ag).m::cellsA Y (encE G.2.1) 149::cellsA sb (dr { s with now:=r.nw } p) 145::Ro.rollC p.rb p.rm s.cfg.agents::Ro.mapE p.rm G.1::shC p.hb p.hm s.cfg.cells::cz p.hm s.cm::slA 164 74 p.ka s.kept.length p.kc (flat cJ s.kept)::cellsA b (de r a c) 61::F)->
      zj.r2 sb 0 b h6 la (jq s r.ag).length lc y:=by
     intro bl la lc H4 hm h4 h;unfold zj.r2;refine⟨_,h.r 6,_,h.r 12,?_⟩;have h:=h.o [6,0,1,2,3,4,5,7,8,9,10,11,12] 13;refine Kt (s:=({ s with now:=r.nw }:aH)) (Q:=Q) ok.cfg h λnb H5 h=>⟨_,rfl,h.r 13,h.r 1,?_⟩
     rw[<-w];refine h.mp_update (α:=Option Nat) (v:=some nb) (x:=((r.ag.toNat:Nat):Int)) qI ko2 3 rfl λH6 h=>?_
     rw[w];refine⟨_,h.r 1,_,h.r 13,_,h.r 13,?_⟩;have h:=h.o [5,6,0,1,2,3,4,7,8,9,10,11,12,13] 14;refine Ma.Join_spec (a:=r.ag) (t:=r.nw) h λH7 h=>⟨_,rfl,?_⟩
     refine fin (jq s r.ag) la lc { s with now:=r.nw,rows:=G.1,ms:=((gW s r.ag).join r.ag r.nw).1,sts:=s.sts.set r.ag.toNat (some (lU s.cfg)) } p _ h4 (λL M A h=>?_) ?_
     .have hk:=k L M A;rw[V7]at hk;exact hk h
     .
      have h:=h.o [5,2,6,0,1,3,4,7,8,9,10,11,12,13] 14;rw[<-w]at h;have h:=Ks hm I h;rw[w]at h;have h:=h.o [3,6,7,1,2,8,9,0,10,4,5,11] 12;have h:aA H7 (stA Q sb { s with now:=r.nw,rows:=G.1,ms:=((gW s r.ag).join r.ag r.nw).1,sts:=s.sts.set r.ag.toNat (some (lU s.cfg)) }::_):=cX.2 ⟨p,h⟩;exact h.o [1,2,3,0] 4
    refine⟨_,h.r 2,_,h.r 11,?_⟩;have V:(∃st,s.sts[r.ag.toNat]?=some (some st))\/s.sts[r.ag.toNat]?=some none:=by
     rw[List.getElem?_eq_getElem I]
     cases s.sts[r.ag.toNat] with
     | none=>exact .inr rfl
     | some st=>exact .inl ⟨st,rfl⟩
    rcases V with ⟨st,u⟩|u
    .have f:=ok.sts st (Wk u);have D:=xv hL.ag.1 u;have E:jq s r.ag=(aG st.hs.rows).map (pC r.ag (bg s.rows r.ag).epoch):=by unfold jq;rw[D]
     have T:gW s r.ag=(s.ms.leave r.ag).1:=by unfold gW;rw[D]
     have h:=h.o [9,0,1,2,3,4,5,6,7,8,10,11] 12;obtain⟨r8,bl,N,h⟩:=qK h u;have h:=h.o [1,0,2,3,4,5,6,7,8,9,10,11,12,13] 14;obtain⟨cb,hb,h⟩:=gV.1 h;have R:=qL N h 3 rfl;rw[w]at R;refine⟨_,R,?_⟩;intro j2 W;refine⟨λ_=>cZ ⟨_,h.r 0,?_⟩,λhn=>V6 hn (by simp)⟩
     have h:=h.o [2,0,1,3,4,5,6,7,8,9,10,11,12,13,14,15] 16;have l5:=f.hs.rows.length;have r0:=f.hs.most2;have l0:st.hs.rows.length<=256:=by omega
     refine AC h f.hs.rows.rising (λq hq=>by
      have h1:=(f.rows q hq).1;have h2:=(f.hs.rows.inb q hq).1;have h3:=f.hs.next0;unfold aF;omega) (by omega) λwa wc H4 h=>⟨_,_,_,rfl,?_⟩
     have j1:(aG st.hs.rows).length=st.hs.rows.length:=by simp[aG]
     refine⟨λla J lc i y=>∃j:Nat,i=j/\j<=st.hs.rows.length/\J=j/\
      aA y (slA 305 87 la j lc (flat dP (((aG st.hs.rows).take j).map (pC r.ag (bg s.rows r.ag).epoch)))::slA 2 1 wa st.hs.rows.length wc ((aG st.hs.rows).map aD)::mapA aD ptV p.tm (cW 0 bl)::lR Q bl s.sts r.ag.toNat::cellsA Y (encE G.2.1) 149::cellsA bb (encE (bg s.rows r.ag)) 149::cellsA sb (dr { s with now:=r.nw } p) 145::Ro.rollC p.rb p.rm s.cfg.agents::Ro.mapE p.rm G.1::Ma.markC p.mb p.mm s.ms::Ma.mapF p.mm s.ms.m::shC p.hb p.hm s.cfg.cells::cz p.hm s.cm::slA 164 74 p.ka s.kept.length p.kc (flat cJ s.kept)::cellsA b (de r a c) 61::F),
      λ_ _ _ i _=>st.hs.rows.length-i.toNat,⟨0,rfl,by omega,rfl,(h.sl_nil 305 87).o [0,1,5,6,7,8,9,10,11,12,13,14,15,16,17] 18⟩,?_⟩
     rintro la J lc i H5 ⟨j,rfl,hj,rfl,h⟩;refine⟨λhc=>?_,λhc=>?_⟩
     .have I:J<st.hs.rows.length:=by have:=V8 hc;omega
      have S:J<(aG st.hs.rows).length:=by omega
      have h0:=(h.sl_rd 1 rfl).at S;refine⟨by omega,_,_,h0.1,_,h0.2,_,h.r 14,_,h.r 5,?_⟩;refine h.al λb3 _ h=>?_
      refine h.append (m:=1) (ws:=dP (pC r.ag (bg s.rows r.ag).epoch (aG st.hs.rows)[J])) sl39 1 rfl (h.ce_rd 0 rfl) rfl (uA _) (by omega) (by omega) λa5 c5 H7 h=>⟨_,_,_,rfl,?_⟩
      rw[aJ (x:=(J:Int)+1)];refine⟨⟨J+1,by omega,I,rfl,?_⟩,by dsimp only;omega⟩;rw[Wn S,VW,dS,show flat dP ([(aG st.hs.rows)[J]].map (pC r.ag (bg s.rows r.ag).epoch))=dP (pC r.ag (bg s.rows r.ag).epoch (aG st.hs.rows)[J]) by simp[flat]];exact h.o [1,2,3,4,5,6,7,8,9,10,11,12,13,14,15] 16
     .have h7:J=st.hs.rows.length:=by have:=V9 hc;omega
      subst h7;rw[Wc (by omega),<-E]at h;have h5:(jq s r.ag).length=st.hs.rows.length:=by rw[E,VM,j1]
      refine⟨_,h.r 6,_,h.r 14,?_⟩;have h:=h.o [9,10,0,1,2,3,4,5,6,7,8,11,12,13,14] 15;refine Ma.Leave_spec (a:=r.ag) h λH6 h=>⟨_,rfl,?_⟩
      rw[<-T]at h;refine W _ _ _ _ ?_;rw[<-h5]at h ⊢;exact C bl la lc H6 N.m (by omega) (h.o [2,4,5,0,1,6,8,9,10,11,12,13,14] 15)
    .have D:dL s r.ag=none:=by unfold dL;rw[V4 (by have:=hL.ag;omega),u];rfl
     have E:jq s r.ag=[]:=by unfold jq;rw[D]
     have T:gW s r.ag=s.ms:=by unfold gW;rw[D]
     refine⟨_,str_nil (h.o [9] 12) (.inr (.inl u)),?_⟩;intro j2 W;refine⟨λhn=>V6 hn (by simp),λ_=>W _ _ _ _ ?_⟩
     have h:=h.o [9,5,6,0,2,3,4,7,8,10,11] 12;obtain⟨bl,hm,h⟩:=ld.1 h;have r9:bl.length=s.sts.length:=by have:=congrArg List.length hm;simpa using this
     have e1:s.sts.set r.ag.toNat none=s.sts:=by
      have:s.sts[r.ag.toNat]=none:=by rw[List.getElem?_eq_getElem I]at u;exact Option.some.inj u
      rw[<-this,WS]
     have e2:bl.set r.ag.toNat none=bl:=by
      have h1:=qJ hm r.ag.toNat
      rw[u,List.getElem?_eq_getElem (show r.ag.toNat<bl.length by omega)]at h1;have:bl[r.ag.toNat]=none:=by
       cases e:bl[r.ag.toNat] with
       | none=>rfl
       | some x=>rw[e]at h1;simp at h1
      rw[<-this,WS]
     have Z:=C bl none 0 H3 hm (by rw[E];simp);rw[E,T]at Z;refine Z ?_;rw[show lR Q bl s.sts r.ag.toNat=strsA Q bl s.sts by unfold lR;rw[e1,e2]];exact h.sl_nil 305 87
   .rw [V4 (by simpa using Z)]at k;have h:=h.o [2,3,4,5,6,7,8,9,10,0,11] 12;have h:aA H3 (stA Q sb { s with now:=r.nw,rows:=G.1 }::_):=cX.2 ⟨p,h⟩;refine fin [] none 0 _ p _ (by simp) (λL M A h=>k L M A h) ?_
    exact (h.sl_nil 305 87).o [0,2,3,1] 4
  refine⟨_,h.r 1,_,h.r 10,_,h.r 10,_,h.r 10,?_,?_⟩
  .have h:=h.o [2,3,0,1,4,5,6,7,8,9,10] 11;refine Ro.Grant_spec ok.rows (agent:=r.ag) (boot:=r.bt) (now:=r.nw) h λH2 h=>⟨_,_,_,_,_,rfl,?_⟩
   refine h.al λb4 _ h=>?_
   refine h.st 0 rfl rfl ?_;intro H3 h;exact B _ _ (h.o [0,3,4,1,2,5,6,7,8,9,10,11] 12)
  .refine h.al λb5 _ h=>⟨h.r 11,h.r 11,h.r 11,h.r 2,?_⟩
   have h:=h.o [3,4,0,1,2,5,6,7,8,9,10,11] 12;refine Ro.Grant_spec ok.rows (agent:=r.ag) (boot:=r.bt) (now:=r.nw) h λH2 h=>⟨_,_,_,_,_,rfl,?_⟩
   refine h.st 2 rfl rfl ?_;intro H3 h;exact B _ _ (h.o [2,3,4,0,1,5,6,7,8,9,10,11] 12)
 refine⟨_,h.r 0,_,h.r 9,?_,?_⟩
 .have h:=h.o [1,2,0,3,4,5,6,7,8,9] 10;refine Ro.Of_spec ok.rows (agent:=r.ag) h λH2 h=>⟨_,_,_,_,rfl,?_⟩
  refine h.al λb6 _ h=>?_
  refine h.st 0 rfl rfl ?_;intro H3 h;exact P _ _ (h.o [0,3,1,2,4,5,6,7,8,9,10] 11)
 .refine h.al λb7 _ h=>⟨h.r 10,h.r 1,?_⟩
  have h:=h.o [2,3,0,1,4,5,6,7,8,9,10] 11;refine Ro.Of_spec ok.rows (agent:=r.ag) h λH2 h=>⟨_,_,_,_,rfl,?_⟩
  refine h.st 2 rfl rfl ?_;intro H3 h;exact P _ _ (h.o [2,3,0,1,4,5,6,7,8,9,10] 11)
end
def mT(s:aH)(r:Rp):aH:=match s.sts[r.ag.toNat]? with
 | some (some st)=>{ s with now:=r.sm.came,ms:=(s.ms.hold r.ag (kS st.ck r.sm).1.held).1,sts:=s.sts.set r.ag.toNat (some { st with ck:=(kS st.ck r.sm).1 }) }
 | _=>s
def mU(s:aH)(r:Rp):aH:=if s.sunk<r.nx then { s with kept:=s.kept.drop (r.nx-s.sunk).toNat,sunk:=r.nx } else s
def bO(s:aH)(r:Rp):aH×List bH×Int:=
 if r.right=false then (s,[],10) else
 if fA s r≠0 then (s,[],fA s r) else
 if r.kind=1 then ({ s with boots:=s.boots+1 },[],0) else
 if r.kind=2 then fB s r else
 if r.kind=3 then (mT s r,[],0) else
 if r.kind=4 then ((gD s r).1,(gD s r).2,0) else
 if r.kind=5 then (lT s r,[],0) else
 if r.kind=6 then ((kG s r.nw).1,(kG s r.nw).2,0) else
 (mU s r,[],0)
theorem lf{s:aH}{r:Rp}(ok:cR s)(b:RLim r)(h:fA s r=0)(c:r.kind=3\/r.kind=4\/r.kind=5):∃st,s.sts[r.ag.toNat]?=some (some st):=by
 unfold fA at h;rw[nO,nO]at h;unfold sH at h;have d:=b.ep.1 c
 split at h
 .simp at h
 .rename_i f;have a:isE s r.ag r.ep=true:=by
   cases e:isE s r.ag r.ep
   .exact V6 ⟨by omega,e⟩ f
   .rfl
  unfold isE at a;rw[VB]at a;exact (ok.str (V8 a.1)).2
section
variable {F L:List aE}{H:aC}{K KP:KE}{Q Q':aE}
theorem Ba{sb:Nat}{s:aH}{r:Rp}{a:KQ}{c:Nat}{evs:List Ev}(ok:cR s)(hs:s.sunk<=4611686018427387903)(S:s.kept.length<=100000000000)(y:oB Q F r a evs)(h:aA H (Q::stA Q sb s::F))
  (k:∀Q' i n d,aM Q Q'->aA d (Q'::slA 305 87 i (bO s r).2.1.length n (flat dP (bO s r).2.1)::stA Q' sb (bO s r).1::F)->K (.tuple #[.slice i (bO s r).2.1.length n,aD (bO s r).2.2]) d) :
  CF 19 #[PA sb 0,.agg ⟨de r a c⟩] H K:=by
 have j2:r.evs.length=evs.length:=by rw[y.eq,VM]
 refine cN 19 0x1d21b21517413c17111413c17413c17171499c [[],[],[],[],[]] ?_;refine h.al λb H0 h=>⟨_,_,_,_,_,_,_,_,_,_,_,_,_,_,h.q 0,?_⟩
 unfold bO at k;refine AF y.eq h ⟨λH h=>y.rd H h.tl.tl.tl,λe he H h=>(y.labs e he).at h 1 rfl⟩ (by have:=y.len;omega) λH1 h=>⟨_,rfl,λO=>?_,λO=>?_⟩
 .rw [V5 (by simpa using O)]at k;have h:=h.o [1,2] 3;exact k Q none 0 _ (aM.refl Q) ((h.sl_nil 305 87).o [1,0,2] 3)
 have Y:r.right=true:=by simpa using O
 have E:=iF Y;rw[V4 (by rw[Y];simp)]at k;have h:=h.o [2,0,1] 3;refine⟨_,_,_,_,_,_,_,_,_,_,_,_,_,_,h.q 1,?_⟩;refine TG ok hs S Y h λH2 h=>⟨_,rfl,λO=>?_,λO=>?_⟩
 .rw [V5 (by simpa using O)]at k;have h:=h.o [0,2] 3;exact k Q none 0 _ (aM.refl Q) ((h.sl_nil 305 87).o [2,0,1] 3)
 have t:fA s r=0:=by simpa using O
 rw[V4 (by rw[t];simp)]at k;refine⟨_,h.r 1,?_⟩;intro Jn hJ;have fin:∀(m:aH) d,(∀Q' i n d,aM Q Q'->aA d (Q'::slA 305 87 i 0 n []::stA Q' sb m::F)->K (.tuple #[.slice i 0 n,aD 0]) d)->aA d (stA Q sb m::Q::F)->Jn d:=by
  intro m d kk h;refine hJ _ ?_;exact kk Q none 0 _ (aM.refl Q) ((h.sl_nil 305 87).o [2,0,1] 3)
 refine⟨λf=>?_,λf=>?_⟩
 .have f:=V8 f;rw[V5 f]at k;obtain⟨p,h⟩:=cX.1 h;refine⟨_,h.r 0,?_⟩;refine h.st 0 rfl rfl ?_;intro A h;have hb:=ok.boots;rw[aJ (x:=s.boots+1)]at h;have h:=h.o [0,1,2,3,4,5,6,7,8,10] 11;have h:aA A (stA Q sb { s with boots:=s.boots+1 }::_):=cX.2 ⟨p,h⟩;exact fin _ _ k h
 have R:=V9 f;rw[V4 R]at k;refine⟨λf=>?_,λf=>?_⟩
 .have B:=V8 f;rw[V5 B]at k;refine⟨_,_,_,_,_,_,_,_,_,_,_,_,_,_,h.q 1,?_⟩;refine Grant_spec ok Y B h λi n A h=>⟨_,_,_,_,rfl,?_⟩
  exact k Q i n A (aM.refl Q) (h.o [3,0,1] 4)
 have B:=V9 f;rw[V4 B]at k;intro h1 h0;have G:∀(m:aH) d,(∀Q' i n d,aM Q Q'->aA d (Q'::slA 305 87 i 0 n []::stA Q' sb m::F)->K (.tuple #[.slice i 0 n,aD 0]) d)->aA d (stA Q sb m::Q::F)->h1 d:=by
  intro m d kk h;refine h0 _ ?_;exact fin m d kk h
 refine⟨λf=>?_,λf=>?_⟩
 .have D:=V8 f;rw[V5 D]at k;obtain⟨st,u⟩:=lf ok E t (.inl D);unfold mT at k;rw[u]at k;dsimp only at k;have W:=ok.sts st (Wk u);have P:((r.ag.toNat:Nat):Int)=r.ag:=by have:=E.ag;omega
  obtain⟨p,h⟩:=cX.1 h;have h:=h.o [7,0,1,2,3,4,5,6,8,9,10] 11;obtain⟨h4,bl,J,h⟩:=qK h u;have h:=h.o [1,0,2,3,4,5,6,7,8,9,10,11,12] 13;obtain⟨cb,hb,h⟩:=gV.1 h;have M:=qL J h 3 rfl;rw[P]at M;refine⟨_,h.r 5,_,h.r 13,_,M,⟨_,h.rd 0 rfl 0,_,_,_,_,h.q 13,?_⟩⟩;have h:=h.o [1,0,2,3,4,5,6,7,8,9,10,11,12,13,14] 15;refine Rz (s:=r.sm) W.ck h λA h=>⟨_,rfl,_,h.r 5,_,h.rd 13 rfl _,⟨_,h.rd 1 rfl 0,_,ug h,?_⟩⟩
  have h:=h.o [8,9,0,1,2,3,4,5,6,7,10,11,12,13,14] 15;refine Ma.Hold_spec (a:=r.ag) (v:=(kS st.ck r.sm).1.held) h λH4 h=>⟨_,rfl,_,h.r 13,?_⟩
  refine h.st 7 rfl rfl ?_;intro H5 h;refine G _ _ k ?_;have h:=h.o [3,2,4,5,6,7,8,9,0,1,10,11,12,14] 15;have h:aA H5 (strA Q h4 { st with ck:=(kS st.ck r.sm).1 }::_):=gV.2 ⟨cb,hb,h⟩;have h:=h.o [1,0,2,3,4,5,6,7,8,9,10,11] 12;have h:=sF J h;exact cX.2 ⟨p,h.o [1,2,3,4,5,6,7,0,8,9] 10⟩
 have D:=V9 f;rw[V4 D]at k;refine⟨λf=>?_,λf=>?_⟩
 .have w:=V8 f;rw[V5 w]at k;obtain⟨st,u⟩:=lf ok E t (.inr (.inl w));have hb:=E.evs w;unfold gT at hb;simp only[VB,VA,Wt]at hb;refine⟨_,_,_,_,_,_,_,_,_,_,_,_,_,_,h.q 1,?_⟩;have h:=h.o [2,0,1] 3;refine TE (evs:=evs) ok E.ag.1 u ⟨y.eq,λH h=>y.rd H h.tl,y.labs,y.len,y.vals⟩ (λe he=>hb.2.2 e he) (by omega) h λQ2 i n A Z h=>⟨_,_,_,rfl,?_⟩
  exact k Q2 i n A Z (h.o [0,1,2] 4)
 have w:=V9 f;rw[V4 w]at k;intro h6 h8;have I:∀(m:aH) d,(∀Q' i n d,aM Q Q'->aA d (Q'::slA 305 87 i 0 n []::stA Q' sb m::F)->K (.tuple #[.slice i 0 n,aD 0]) d)->aA d (stA Q sb m::Q::F)->h6 d:=by
  intro m d kk h;refine h8 _ ?_;exact G m d kk h
 refine⟨λf=>?_,λf=>?_⟩
 .have C:=V8 f;rw[V5 C]at k;obtain⟨st,u⟩:=lf ok E t (.inr (.inr C));refine⟨_,_,_,_,_,_,_,_,_,_,_,_,_,_,h.q 1,?_⟩;refine TF ok E.ag.1 u h λA h=>⟨rfl,I _ _ k (h.o [0,2] 3)⟩
 have C:=V9 f;rw[V4 C]at k;refine⟨λf=>?_,λf=>?_⟩
 .have N:=V8 f;rw[V5 N]at k;refine⟨_,h.r 1,?_⟩;refine Tick_spec ok hs S h λi n A h=>⟨_,_,_,rfl,?_⟩
  exact k Q i n A (aM.refl Q) (h.o [3,0,1] 4)
 have N:=V9 f;rw[V4 N]at k;intro h3 h2;have V:∀(m:aH) d,(∀Q' i n d,aM Q Q'->aA d (Q'::slA 305 87 i 0 n []::stA Q' sb m::F)->K (.tuple #[.slice i 0 n,aD 0]) d)->aA d (stA Q sb m::Q::F)->h3 d:=by
  intro m d kk h;refine h2 _ ?_;exact I m d kk h
 have T:r.kind=7:=by have:=E.kind;omega
 refine⟨λ_=>?_,λf=>V6 T (V9 f)⟩
 obtain⟨p,h⟩:=cX.1 h;refine⟨_,h.r 9,_,h.r 0,?_⟩;intro h7 h5;have L:∀(m:aH) d,(∀Q' i n d,aM Q Q'->aA d (Q'::slA 305 87 i 0 n []::stA Q' sb m::F)->K (.tuple #[.slice i 0 n,aD 0]) d)->aA d (stA Q sb m::Q::F)->h7 d:=by
  intro m d kk h;refine h5 _ ?_;exact V m d kk h
 unfold mU at k;refine⟨λf=>?_,λf=>?_⟩
 .have f:=V8 f;rw[V5 f]at k;have U:r.nx<=s.next:=by
   unfold fA at t;rw[V4 R,V5 T]at t
   split at t
   .simp at t
   .omega
  have U:r.nx<=s.sunk+(s.kept.length:Int):=U;have j1:=ok.sunk;have h9:=E.nx;have hw:i64.wrap (r.nx-s.sunk)=((r.nx-s.sunk).toNat:Nat):=by rw[aJ];omega
  refine⟨_,_,_,h.r 0,_,h.r 9,_,h.r 0,?_⟩;dsimp only
  conv=>whnf
  rw[hw];have h:=h.o [8,0,1,2,3,4,5,6,7,9,10] 11;refine SG (j:=(r.nx-s.sunk).toNat) (by omega) h λA h=>⟨_,_,_,rfl,?_⟩
  refine h.st 1 rfl rfl ?_;intro H4 h;refine⟨_,h.r 9,?_⟩;refine h.st 1 rfl rfl ?_;intro H5 h;refine L _ _ k ?_;refine cX.2 ⟨p,?_⟩;have e:(s.kept.drop (r.nx-s.sunk).toNat).length=s.kept.length-(r.nx-s.sunk).toNat:=VU ..;simp only[dr,e];exact h.o [1,2,3,4,5,6,7,8,0,10] 11
 .rw [V4 (V9 f)]at k;refine L _ _ k (cX.2 ⟨p,h.o [0,1,2,3,4,5,6,7,8,10] 11⟩)
end
section
variable {α:Type}
theorem Ku{next most B:Int}:∀{l:List α} {n:Int} {s:cy α×Int},(∀p∈s.1,p.1<B)->n+l.length<=B->∀p∈(fi next most n l s).1,p.1<B
 | [],n,s,h,_=>h
 | v::vs,n,s,h,hn=>by
  rw[VE]at hn;refine Ku (l:=vs) (λp a=>?_) (by omega)
  unfold ee at a
  split at a
  .exact h p a
  .split at a
   .exact h p a
   .rcases tG.1 a with rfl|a
    .show n<B;omega
    .exact h p a
theorem pop_le{B:Int}:∀{l:cy α} {next:Int},next<=B->(∀p∈l,p.1<B)->(pop next l).2.1<=B
 | [],next,h,_=>h
 | (n,v)::r,next,h,hl=>by
  unfold pop
  split
  .rename_i e;have:=hl _ (VO ..);exact pop_le (l:=r) (next:=next+1) (by dsimp only at this;omega) λp a=>hl p (VQ _ a)
  .exact h
theorem Kv{s:HS α}{first B:Int}{items:List α}(b:s.next<=B)(a:∀p∈s.rows,p.1<B)(d:first+items.length<=B) :
  (s.offer first items).1.next<=B/\∀p∈(s.offer first items).1.rows,p.1<B:=by
 unfold HS.offer
 split
 .exact⟨b,a⟩
 .have h:=Ku (next:=s.next) (most:=s.most) (l:=items) (n:=first) (s:=(s.rows,0)) a d;exact⟨pop_le b h,λp c=>h p (A8.2 p c)⟩
end
theorem Kw(ms:MS)(a t:Int):(ms.raise a t).1.lag=ms.lag:=by
 unfold MS.raise
 split
 .rfl
 .split <;> rfl
theorem hold_lag(ms:MS)(a:Int)(b:Bool):(ms.hold a b).1.lag=ms.lag:=by
 unfold MS.hold;split <;> rfl
theorem TJ(ms:MS)(a:Int):(ms.leave a).1.lag=ms.lag:=by
 unfold MS.leave;split <;> rfl
theorem join_lag(ms:MS)(a t:Int):(ms.join a t).1.lag=ms.lag:=by
 unfold MS.join
 split
 .rfl
 .split <;> rfl
theorem tick_lag(ms:MS)(t:Int):(ms.tick t).1.lag=ms.lag:=by
 unfold MS.tick;split <;> rfl
theorem Kx{c:bD}{now a:Int}{st:br}{ms:MS}{cm:CM}{e:Pv}(h:MOk ms):MOk (eD c now a st ms cm e).ms/\(eD c now a st ms cm e).ms.lag=ms.lag:=by
 have d:=h.raise a (cQ st.ck (bF ms a) now e.stamp).1.lo;have b:=Kw ms a (cQ st.ck (bF ms a) now e.stamp).1.lo;unfold eD
 split
 .exact⟨h,rfl⟩
 split
 .exact⟨h,rfl⟩
 split
 .exact⟨d,b⟩
 split
 .exact⟨d,b⟩
 split <;> exact⟨d,b⟩
theorem Kz{c:bD}{now a ep first:Int}{evs:List Pv}{x:JS}(h:MOk x.ms)(i:-1<=x.st.last/\x.st.last<=4611686018427387903)(f:∀e∈evs,gS e=true):∀n,n<=evs.length->
  MOk (dh c now a ep first evs x n).1.ms/\(dh c now a ep first evs x n).1.ms.lag=x.ms.lag/\-1<=(dh c now a ep first evs x n).1.st.last/\(dh c now a ep first evs x n).1.st.last<=4611686018427387903
 | 0,_=>⟨h,rfl,i⟩
 | n+1,hn=>by
  have d:=Kz (c:=c) (now:=now) (a:=a) (ep:=ep) (first:=first) h i f n (by omega);have j:=xu c now a (dh c now a ep first evs x n).1.st (dh c now a ep first evs x n).1.ms (dh c now a ep first evs x n).1.cm (evs.getD n Pv.z);have hm:=Kx (c:=c) (now:=now) (a:=a) (st:=(dh c now a ep first evs x n).1.st) (cm:=(dh c now a ep first evs x n).1.cm) (e:=evs.getD n Pv.z) d.1;have b:gS (evs.getD n Pv.z)=true:=by rw[ow _ (by omega)];exact f _ (VL _)
  unfold gS at b;simp only[VB,VA]at b;refine⟨hm.1,hm.2.trans d.2.1,?_⟩;show -1<=(eD c now a _ _ _ _).st.last/\(eD c now a _ _ _ _).st.last<=_
  rcases j.2.2 with e|e
  .rw [e];exact d.2.2
  .rw [e];omega
theorem cR.setStr{s:aH}(ok:cR s){k:Nat}{st a:br}{now:Int}{ms:MS}{cm:CM}(d:s.sts[k]?=some (some st))(m:isT now)(f:MOk ms)(h:ms.lag=s.ms.lag)(n:dX s.cfg.cells cm)(i:lS s.cfg a) :
  cR { s with now:=now,ms:=ms,cm:=cm,sts:=s.sts.set k (some a) }:=by
 have c:k<s.sts.length:=(List.getElem?_eq_some_iff.1 d).1;refine⟨ok.cfg,m,ok.boots,ok.sunk,ok.rows,f,h.trans ok.lag,n,?_,λx b=>?_,λj=>?_,ok.kept⟩
 .show (s.sts.set k _).length=64;rw[Y7,ok.len]
 .rcases Y6 b with b|b
  .exact ok.sts x b
  .cases b;exact i
 .rw [<-ok.reg j];show (∃x,(s.sts.set k (some a))[j]?=some (some x))↔_
  by_cases e:j=k
  .subst e;rw[List.getElem?_set_self c];exact⟨λ_=>⟨st,d⟩,λ_=>⟨a,rfl⟩⟩
  .rw [List.getElem?_set_ne (by omega)]
theorem cR.upd{s:aH}(ok:cR s){now:Int}{ms:MS}{cm:CM}{kept:List Ot}{sunk boots:Int}(f:isT now)(a:MOk ms)(b:ms.lag=s.ms.lag)(h:dX s.cfg.cells cm)(c:∀o∈kept,WC o.2)(e:0<=sunk)(d:0<=boots/\boots<=1099511627776) :
  cR { s with now:=now,ms:=ms,cm:=cm,kept:=kept,sunk:=sunk,boots:=boots }:=
 ⟨ok.cfg,f,d,e,ok.rows,a,b.trans ok.lag,h,ok.len,ok.sts,ok.reg,c⟩
theorem xw{most:Int}{m:CM}(h:dX most m):∀o∈bA m,WC o.2:=by
 intro o a;unfold bA at a;obtain⟨k,_,rfl⟩:=VH.1 a;exact h.cell k
theorem TK{c:bD}(h:jB c):lS c (lU c) where
 ck:=⟨by simp[lU],λs hs=>V6 hs (by simp[lU]),by show (0:Int)<=0/\(0:Int)<=9223372036854775807;decide⟩
 rho:=rfl
 least:=rfl
 hs:=⟨by show (0:Int)<=0;decide,h.hd.1,h.hd.2,⟨by simp[lU,gJ],λp a=>V6 a (by simp[lU])⟩⟩
 most:=rfl
 next:=by show (0:Int)<=_;decide
 rows:=λp a=>V6 a (by simp[lU])
 last:=by show (-1:Int)<=-1/\(-1:Int)<=4611686018427387903;decide
theorem TM(c:Ck)(s:bQ):(kS c s).1.rho=c.rho/\(kS c s).1.least=c.least:=by
 unfold kS
 split
 .exact⟨rfl,rfl⟩
 .dsimp only;generalize pj _=B
  cases B <;> exact⟨rfl,rfl⟩
theorem batch_ok{s:aH}{r:Rp}(ok:cR s)(u:RLim r)(y:r.kind=4){st:br}(f:s.sts[r.ag.toNat]?=some (some st))(v:∀e∈r.evs,aF e.value):cR (gD s r).1:=by
 have b:=ok.sts st (Wk f);have hb:=u.evs y;unfold gT at hb;simp only[VB,VA,Wt]at hb;obtain⟨⟨E,A⟩,⟨⟨D,C⟩,w⟩,k⟩:=hb;have t:=HS.offer_ok b.hs r.nx r.evs;have hm:=uq (s:=st.hs) (first:=r.nx) (items:=r.evs);have m:=Kv (s:=st.hs) (first:=r.nx) (B:=1099511627776) (items:=r.evs) b.next (λp n=>(b.rows p n).1) (by omega)
 unfold gD;rw[f];dsimp only;unfold kF;generalize st.hs.offer r.nx r.evs=O at *;have good:∀e∈O.2.1,gS e=true/\aF e.value:=by
  intro e j
  rcases hm.1 e j with h|⟨q,h,rfl⟩
  .exact⟨k e h,v e h⟩
  .exact (b.rows q h).2
 have d:=AZ (c:=s.cfg) (now:=r.nw) (a:=r.ag) (ep:=r.ep) (first:=st.hs.next) (evs:=O.2.1) (x:=⟨{ st with hs:=O.1 },s.ms,s.cm⟩) ok.sh (λe j=>(good e j).2) O.2.1.length (VF _)
 have i:=Kz (c:=s.cfg) (now:=r.nw) (a:=r.ag) (ep:=r.ep) (first:=st.hs.next) (evs:=O.2.1) (x:=⟨{ st with hs:=O.1 },s.ms,s.cm⟩) ok.ms b.last (λe j=>(good e j).1) O.2.1.length (VF _)
 generalize dh s.cfg r.nw r.ag r.ep st.hs.next O.2.1 ⟨{ st with hs:=O.1 },s.ms,s.cm⟩ O.2.1.length=G at *;refine ok.setStr f u.nw i.1 i.2.1 d.1 ⟨by rw[d.2.1];exact b.ck,by rw[d.2.1];exact b.rho,by rw[d.2.1];exact b.least,by rw[d.2.2.1];exact t.1,by rw[d.2.2.1];exact t.2.2.2.trans b.most,by rw[d.2.2.1];exact m.1,?_,i.2.2⟩;rw[d.2.2.1];intro p n;refine⟨m.2 p n,?_⟩
 rcases hm.2 p n with h|h
 .exact⟨k _ h,v _ h⟩
 .exact (b.rows p h).2
theorem xx{most:Int}{rows:List En}(c:fP rows)(a b n:Int) :
  ((grant most rows a b n).2.2.1=true/\(grant most rows a b n).1=rows.set a.toNat (grant most rows a b n).2.1/\0<(grant most rows a b n).2.1.epoch/\(grant most rows a b n).2.2.2=0/\(grant most rows a b n).2.1.epoch=(bg rows a).epoch+1)\/
  ((grant most rows a b n).2.2.1=false/\(grant most rows a b n).1=rows/\((grant most rows a b n).2.2.2=0->(grant most rows a b n).2.1=bg rows a/\0<(bg rows a).epoch)):=by
 have h0:=(c.at a).1;unfold grant
 split
 .exact .inr ⟨rfl,rfl,λh=>by simp at h⟩
 dsimp only
 split
 .rename_i h;exact .inr ⟨rfl,rfl,λ_=>⟨rfl,h.1⟩⟩
 split
 .exact .inr ⟨rfl,rfl,λh=>by simp at h⟩
 split
 .exact .inr ⟨rfl,rfl,λh=>by simp at h⟩
 split
 .exact .inr ⟨rfl,rfl,λh=>by simp at h⟩
 .exact .inl ⟨rfl,rfl,by show 0<(bg rows a).epoch+1;omega,rfl,rfl⟩
theorem oldM_ok{s:aH}(ok:cR s)(a:Int):MOk (gW s a)/\(gW s a).lag=s.ms.lag:=by
 unfold gW
 split
 .exact⟨ok.ms.leave a,TJ _ _⟩
 .exact⟨ok.ms,rfl⟩
theorem TN{s:aH}{r:Rp}(ok:cR s)(d:RLim r):cR (fB s r).1:=by
 have k:=xx (most:=s.cfg.agents) ok.rows r.ag r.bt r.nw;have f:=grant_ok (most:=s.cfg.agents) ok.rows r.ag r.bt r.nw;have i:=oldM_ok ok r.ag;unfold fB
 split
 .exact ok
 split
 .rename_i c
  rcases k with ⟨-,g2,g3,g4,-⟩|⟨g1,_⟩
  .have h:r.ag.toNat<s.sts.length:=by rw[ok.len];have:=d.ag;omega
   have a:r.ag.toNat<s.rows.length:=by rw[ok.rows.len];have:=d.ag;omega
   refine⟨ok.cfg,d.nw,ok.boots,ok.sunk,f,i.1.join _ _,(join_lag _ _ _).trans (i.2.trans ok.lag),ok.sh,?_,λx b=>?_,λj=>?_,ok.kept⟩
   .show (s.sts.set _ _).length=64;rw[Y7,ok.len]
   .rcases Y6 b with b|b
    .exact ok.sts x b
    .cases b;exact TK ok.cfg
   .dsimp only;rw[g2]
    by_cases e:j=r.ag.toNat
    .subst e;rw[List.getElem?_set_self h,List.getElem?_set_self a];exact⟨λ_=>⟨_,rfl,g3⟩,λ_=>⟨_,rfl⟩⟩
    .rw [List.getElem?_set_ne (by omega),List.getElem?_set_ne (by omega)];exact ok.reg j
  .rw [g1]at c;cases c
 .rename_i c
  rcases k with ⟨g1,_⟩|⟨-,g2,_⟩
  .exact V6 g1 c
  .dsimp only;rw[g2];exact ok.upd (kept:=s.kept) (sunk:=s.sunk) (boots:=s.boots) d.nw ok.ms rfl ok.sh ok.kept ok.sunk ok.boots
theorem Bb{m:CM}{b:Int}{o:Ot}(h:o∈iC m b):o∈bA m:=(List.takeWhile_sublist _).subset h
theorem apply_ok{s:aH}{r:Rp}(ok:cR s)(m:∀e∈r.evs,aF e.value):cR (bO s r).1:=by
 unfold bO
 split
 .exact ok
 rename_i j;have j:r.right=true:=by simpa using j
 have d:=iF j
 split
 .exact ok
 rename_i b;have b:fA s r=0:=by simpa using b
 split
 .rename_i f;have hb:s.boots<1099511627776:=by
   unfold fA at b;rw[V5 f]at b
   split at b
   .simp at b
   .omega
  exact ok.upd (now:=s.now) (kept:=s.kept) (sunk:=s.sunk) (boots:=s.boots+1) ok.now ok.ms rfl ok.sh ok.kept ok.sunk (by have:=ok.boots;omega)
 split
 .exact TN ok d
 split
 .rename_i f;obtain⟨st,c⟩:=lf ok d b (.inl f);have a:=ok.sts st (Wk c);unfold mT;rw[c];have k:=TM st.ck r.sm;have i:=d.sm;unfold bQ.ok at i;exact ok.setStr c i.2.2.2.1 (ok.ms.hold _ _) (hold_lag _ _ _) ok.sh ⟨ckAdd_ok a.ck r.sm,k.1.trans a.rho,k.2.trans a.least,a.hs,a.most,a.next,a.rows,a.last⟩
 split
 .rename_i f;obtain⟨st,c⟩:=lf ok d b (.inr (.inl f));exact batch_ok ok d f c m
 split
 .rename_i f;obtain⟨st,c⟩:=lf ok d b (.inr (.inr f));have a:=ok.sts st (Wk c);have same:=ok.upd (now:=r.nw) (kept:=s.kept) (sunk:=s.sunk) (boots:=s.boots) d.nw ok.ms rfl ok.sh ok.kept ok.sunk ok.boots;unfold lT;rw[c];dsimp only
  split
  .exact same
  split
  .exact same
  .have:=d.st;exact ok.setStr c d.nw (ok.ms.raise _ _) (Kw _ _ _) ok.sh ⟨a.ck,a.rho,a.least,a.hs,a.most,a.next,a.rows,by show -1<=r.st/\r.st<=4611686018427387903;omega⟩
 split
 .unfold kG;exact ok.upd (sunk:=s.sunk) (boots:=s.boots) d.nw (ok.ms.tick _) (tick_lag _ _) (T9 ok.sh) (λo h=>by
   rcases VV.1 h with h|h
   .exact ok.kept o h
   .exact xw ok.sh o (Bb h)) ok.sunk ok.boots
 .unfold mU
  split
  .exact ok.upd (now:=s.now) (boots:=s.boots) ok.now ok.ms rfl ok.sh (λo h=>ok.kept o (WH h)) d.nx.1 ok.boots
  .exact ok
def fC(c:bD):Bool:=decide c.gd.ok&&decide (1<=c.lag/\c.lag<=1099511627776)&&decide (gA c.rho/\0<=c.trust/\c.trust<=100)&&decide (1<=c.agents/\c.agents<=64)&&decide (1<=c.cells/\c.cells<=1024)&&decide (1<=c.hold/\c.hold<=256)
theorem uC{c:bD}(h:fC c=true):jB c:=by
 unfold fC at h;simp only[VB,VA]at h;obtain⟨⟨⟨⟨⟨i,b⟩,e⟩,f⟩,d⟩,a⟩:=h;exact⟨i,b,e,f,d,a⟩
def bT(c:bD):aH:=⟨c,0,0,0,List.replicate 64 En.z,MS.new c.lag,[],List.replicate 64 none,[]⟩
theorem qN{c:bD}(h:jB c):cR (bT c) where
 cfg:=h
 now:=by show isT 0;decide
 boots:=by show (0:Int)<=0/\(0:Int)<=1099511627776;decide
 sunk:=by show (0:Int)<=0;decide
 rows:=Tq
 ms:=MOk.new h.lag.1 h.lag.2
 lag:=rfl
 sh:=⟨h.cl.1,h.cl.2,by simp[bT],λp a=>V6 a (by simp[bT]),λp a=>V6 a (by simp[bT]),λp a=>V6 a (by simp[bT]),by have:=h.cl;simp[bT];omega⟩
 len:=by simp[bT]
 sts:=λst hs=>by
  have:=YP hs
  cases this
 reg:=λk=>by
  unfold bT;dsimp only;rw[List.getElem?_replicate,List.getElem?_replicate]
  by_cases hk:k<64
  .rw [V5 hk,V5 hk]
   constructor
   .rintro⟨st,h⟩;cases h
   .rintro⟨e,h,h2⟩;cases h;simp[En.z]at h2
  .rw [V4 hk,V4 hk]
   constructor
   .rintro⟨st,h⟩;cases h
   .rintro⟨e,h,h2⟩;cases h
 kept:=λo b=>V6 b (by simp[bT])
structure AgR where
 en:En
 fl:Fl
 last:Int
 next:Int
 wait:Int
 smps:Int
def AgR.z:AgR:=⟨En.z,Fl.z,0,0,0,0⟩
abbrev encA(x:AgR):Os:=[aB x.en.epoch,aB x.en.boot,aB x.en.time,aB x.fl.t,.bool x.fl.out,.bool x.fl.was,.bool x.fl.held,aB x.last,aB x.next,aB x.wait,aB x.smps]
def lg(s:aH)(a:Int):AgR×Bool:=if 0<(bg s.rows a).epoch then (match dL s a with
 | some st=>(⟨bg s.rows a,bF s.ms a,st.last,st.hs.next,(st.hs.rows.length:Nat),(st.ck.smps.length:Nat)⟩,true)
 | none=>(AgR.z,true)) else (AgR.z,false)
section
variable {F L:List aE}{H:aC}{K KP:KE}{Q Q':aE}
def eN(p:Prop)[Decidable p]:Int:=if p then 0 else 11
theorem uD{p:Prop}[Decidable p](h:p):eN p=0:=V5 h
theorem uE{p:Prop}[Decidable p](h:¬p):eN p=11:=V4 h
theorem lV(h:aA H F):aA H (emp::F):=by
 unfold aA at *;simpa[star,oO] using h
theorem MarkE{lag:Int}(h:aA H F)(k:∀p a,aA a F->K (.tuple #[.pointer p,aD (eN (1<=lag/\lag<=1099511627776))]) a):CF 181 #[aD lag] H K:=by
 refine Ma.New_spec h (λd=>?_) λc b mb rb a h=>?_
 .have:=k none H h;rw[uE (by omega)]at this;exact this
 .have:=k (some ⟨mb,0,none⟩) a h.tl.tl;rw[uD ⟨c,b⟩]at this;exact this
theorem ClockE{rho least:Int}(h:aA H F)(k:∀p a,aA a F->K (.tuple #[.pointer p,aD (eN (gA rho/\0<=least/\least<=100))]) a):CF 182 #[aD rho,aD least] H K:=by
 refine Iz h (λd=>?_) λc b a h=>?_
 .have:=k none H h;rw[uE d]at this;exact this
 .have:=k (some ⟨b,0,none⟩) a h.tl;rw[uD c]at this;exact this
theorem RollE{most:Int}(h:aA H F)(k:∀p a,aA a F->K (.tuple #[.pointer p,aD (eN (1<=most/\most<=64))]) a):CF 183 #[aD most] H K:=by
 refine Ro.New_spec h (λc=>?_) λb rb mb a h=>?_
 .have:=k none H h;rw[uE (by omega)]at this;exact this
 .have:=k (some ⟨rb,0,none⟩) a h.tl.tl;rw[uD (by omega)]at this;exact this
theorem ShelfE{most:Int}(h:aA H F)(k:∀p a,aA a F->K (.tuple #[.pointer p,aD (eN (1<=most/\most<=1024))]) a):CF 184 #[aD most] H K:=by
 refine II h (λb=>?_) λrb mb a ok h=>?_
 .have:=k none H h;rw[uE (by omega)]at this;exact this
 .have:=k (some ⟨rb,0,none⟩) a h.tl.tl;rw[uD ⟨ok.m1,ok.m2⟩]at this;exact this
theorem HoldE{most:Int}(h:aA H F)(k:∀p a,aA a F->K (.tuple #[.pointer p,aD (eN (1<=most/\most<=256))]) a):CF 185 #[aD 0,aD most] H K:=by
 refine AB (Q:=emp) h (λc=>?_) λhb a b h=>?_
 .have:=k none H h;rw[uE (by omega)]at this;exact this
 .have:=k (some ⟨hb,0,none⟩) a h.tl;rw[uD (by omega)]at this;exact this
theorem eq138{a b c d e f:Int}:iL Tryz.prog .eql 357 (.agg #[aD a,aD b,aD c,aD d,aD e,aD f]) (.agg #[aD 0,aD 0,aD 0,aD 0,aD 0,aD 0])
  (decide (a=0)&&decide (b=0)&&decide (c=0)&&decide (d=0)&&decide (e=0)&&decide (f=0)):=by
 have h:=(yR (P:=Tryz.prog) (t:=357) (xs:=[aD a,aD b,aD c,aD d,aD e,aD f]) (ys:=[aD 0,aD 0,aD 0,aD 0,aD 0,aD 0])
  (r:=(a == 0&&(b == 0&&(c == 0&&(d == 0&&(e == 0&&(f == 0&&true))))))) (by kernel_rfl)).1
 have e:(a == 0&&(b == 0&&(c == 0&&(d == 0&&(e == 0&&(f == 0&&true))))))=(decide (a=0)&&decide (b=0)&&decide (c=0)&&decide (d=0)&&decide (e=0)&&decide (f=0)):=by
  rw[Wp];simp only[VB,beq_iff_eq,VA,Bool.and_true]
  constructor
  .rintro⟨h1,h2,h3,h4,h5,h6⟩;exact⟨⟨⟨⟨⟨h1,h2⟩,h3⟩,h4⟩,h5⟩,h6⟩
  .rintro⟨⟨⟨⟨⟨h1,h2⟩,h3⟩,h4⟩,h5⟩,h6⟩;exact⟨h1,h2,h3,h4,h5,h6⟩
 rw[e]at h;exact h
theorem eN0(p:Prop)[Decidable p]:decide (eN p=0)=decide p:=by
 unfold eN
 by_cases h:p
 .simp [h]
 .simp [h]
theorem Bc{c:bD}(h:aA H F)(k:∀a,aA a F->K (.bool (fC c)) a):CF 84 #[.agg ⟨oA c⟩] H K:=by
 refine cM 84 286331164 ?_;refine h.al λb _ h=>⟨_,h.r 0,_,h.r 0,_,h.r 0,?_⟩
 refine Iw (g:=c.gd) h λj h=>⟨_,_,_,_,rfl,?_⟩
 refine h.al λb1 _ h=>?_
 refine h.st 0 rfl rfl ?_;intro i h;refine⟨_,h.r 1,MarkE h λp1 t h=>⟨_,_,rfl,_,h.r 1,_,h.r 1,ClockE h λp2 f h=>⟨_,_,rfl,_,h.r 1,RollE h λp3 s h=>⟨_,_,rfl,_,h.r 1,ShelfE h λp4 n h=>⟨_,_,rfl,_,h.r 1,HoldE h λp5 m h=>⟨_,_,rfl,_,eq138,?_⟩⟩⟩⟩⟩⟩
 have e:fC c=(decide ((if c.gd.ok then (0:Int) else 11)=0)&&decide (eN (1<=c.lag/\c.lag<=1099511627776)=0)&&decide (eN (gA c.rho/\0<=c.trust/\c.trust<=100)=0)&&decide (eN (1<=c.agents/\c.agents<=64)=0)&&decide (eN (1<=c.cells/\c.cells<=1024)=0)&&decide (eN (1<=c.hold/\c.hold<=256)=0)):=by
  have d:=eN0 c.gd.ok;unfold eN at d;rw[d,eN0,eN0,eN0,eN0,eN0];rfl
 rw[<-e];exact k _ h.tl.tl
theorem K0{c:bD}(h:aA H F)(k1:fC c=false->∀a,aA a F->K (.tuple #[.pointer none,aD 11]) a)(k2:fC c=true->∀sb a,aA a (stA Q sb (bT c)::F)->K (.tuple #[PA sb 0,aD 0]) a) :
  CF 102 #[.agg ⟨oA c⟩] H K:=by
 refine cM 102 487657756 ?_;refine h.al λb _ h=>⟨_,_,_,_,_,_,_,_,_,h.q 0,?_⟩
 refine Bc (c:=c) h λs h=>⟨_,rfl,λd=>?_,λd=>?_⟩
 .exact k1 (by simpa using d) _ h.tl
 have f:fC c=true:=by simpa using d
 have ok:=uC f;refine⟨_,_,_,_,_,_,_,_,_,h.q 0,?_⟩;refine h.alm aD ptV λtm _ h=>?_
 refine h.al λsb _ h=>⟨_,h.r 2,_,h.r 2,_,h.r 2,?_⟩
 refine Iw (g:=c.gd) h λt h=>⟨_,_,_,_,rfl,?_⟩
 rw[V5 ok.gd];refine h.st 0 rfl rfl ?_;intro n h;refine⟨_,h.r 2,Ro.New_spec h (λi=>V6 ok.ag (by omega)) λ_ rb rm x h=>⟨_,_,rfl,?_⟩⟩
 refine h.st 2 rfl rfl ?_;intro m h;refine⟨_,h.r 4,Ma.New_spec h (λi=>V6 ok.lag (by omega)) λ_ _ mb mm w h=>⟨_,_,rfl,?_⟩⟩
 refine h.st 4 rfl rfl ?_;intro v h;refine⟨_,h.r 6,II h (λi=>V6 ok.cl (by omega)) λhb hm u _ h=>⟨_,_,rfl,?_⟩⟩
 refine h.st 6 rfl rfl ?_;intro j h;refine k2 f sb _ (cX.2 ⟨⟨rb,rm,mb,mm,hb,hm,tm,none,0⟩,?_⟩);have h:=(h.sl_nil 164 74).o [8,0,7,5,6,3,4,1,2] 10;have k:aA j (strmA Q tm (List.replicate 64 none)::_):=ld.2 ⟨List.replicate 64 none,by simp,by
  rw[AW];have e:cW 0 (List.replicate 64 (none:Option Nat))=[]:=by decide
  rw[e];have:=lV h;exact this.o [1,0] 2⟩
 exact k.o [2,3,4,5,6,7,8,0,1] 9
end
end Go.Proofs.YtaaieblnikcndaaGreatDoor
