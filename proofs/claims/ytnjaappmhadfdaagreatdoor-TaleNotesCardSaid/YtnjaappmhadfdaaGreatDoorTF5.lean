/-
  Lemmas for TaleBack: part 5 of what it rests on. Conditions: none.
-/
import Derived.Test.YtnjaappmhadfdaaGreatDoorTF4
set_option linter.unusedVariables false
set_option linter.unusedSimpArgs false
set_option maxRecDepth 100000
set_option maxHeartbeats 16000000
open Go.IntKind (i64 u64 i8 u8 i32 u32 i16 u16)
namespace Go.Proofs.YtnjaappmhadfdaaGreatDoor
open Go
structure En where
 epoch:Int
 boot:Int
 time:Int
deriving DecidableEq
def En.z:En:=⟨0,0,0⟩
abbrev encE(e:En):Xb:=[.int .i64 e.epoch,.int .i64 e.boot,.int .i64 e.time]
abbrev aggE(e:En):Value:=.agg #[.int .i64 e.epoch,.int .i64 e.boot,.int .i64 e.time]
def bi:Nat->List En->List (Int×En)
 | _,[]=>[]
 | i,e::r=>if 0<e.epoch then ((i:Int),e)::bi (i+1) r else bi (i+1) r
theorem qn{i:Nat}:∀{l:List En} {p:Int×En},p∈bi i l->(i:Int)<=p.1/\p.1<i+l.length/\0<p.2.epoch
 | [],p,h=>by grind [bi]
 | e::r,p,h=>by
  simp only[bi]at h;have a:=qn (i:=i+1) (l:=r) (p:=p)
  grind
theorem wE{i:Nat}:∀{l:List En},(aL (bi i l)).Pairwise (·< ·)
 | []=>by simp[bi]
 | e::r=>by
  simp only[bi]
  split
  .simp only[aL,VR,Wl];refine⟨λa b=>?_,wE⟩
   obtain⟨p,c,rfl⟩:=V8.1 b;have:=qn c;omega
  .exact wE
theorem I6{i:Nat}{l:List En}:(aL (bi i l)).Nodup:=wE.imp (λh=>by omega)
theorem Ri{i:Nat}{l:List En}:sortI (aL (bi i l))=aL (bi i l):=yx (wE.imp (λh=>by omega))
theorem zT{i:Nat}:∀{l:List En} {k:Nat},aK ((i+k:Nat):Int) (bi i l)=match l[k]? with|some e=>if 0<e.epoch then some e else none|none=>none
 | [],k=>by simp[bi,aK]
 | e::r,0=>by
  have c:aK ((i+0:Nat):Int) (bi (i+1) r)=none:=eB.2 λh=>by
   obtain⟨p,b,d⟩:=V8.1 h;have:=qn b;omega
  grind [bi,aK]
 | e::r,k+1=>by
  have a:=zT (i:=i+1) (l:=r) (k:=k);rw[show i+1+k=i+(k+1) by omega]at a;simp only[bi,List.getElem?_cons_succ]
  split
  .simp only[aK]
   grind
  .exact a
theorem I7{i:Nat}{x:En}(c:0<x.epoch):∀{l:List En} {k:Nat},k<l.length->(bi i (l.set k x)).Perm (mset ((i+k:Nat):Int) x (bi i l))
 | e::r,0,_=>by
  have hd:bD ((i+0:Nat):Int) (bi (i+1) r)=bi (i+1) r:=lJ (eB.2 λh=>by
   obtain⟨p,d,f⟩:=V8.1 h;have:=qn d;omega)
  simp only[WV,bi,V1 c]
  grind [bD,mset]
 | e::r,k+1,h=>by
  have b:=I7 (i:=i+1) c (l:=r) (k:=k) (by simpa using h);rw[show i+1+k=i+(k+1) by omega]at b;simp only[List.set_cons_succ,bi]
  split
  .refine (b.cons _).trans ?_;unfold mset;have:bD ((i+(k+1):Nat):Int) (((i:Int),e)::bi (i+1) r)=((i:Int),e)::bD ((i+(k+1):Nat):Int) (bi (i+1) r):=by
    have a:¬(i:Int)=((i+(k+1):Nat):Int):=by omega
    simp[bD,Wq,a];omega
   rw[this];exact .swap _ _ _
  .exact b
theorem I8{i:Nat}:∀{l:List En},(bi i l).length=(l.filter λe=>decide (0<e.epoch)).length
 | []=>rfl
 | e::r=>by
  simp only[bi,Wq];have:=I8 (i:=i+1) (l:=r)
  by_cases h:0<e.epoch <;> simp[h,this]
abbrev bad(agent boot now:Int):Prop:=agent<0\/63<agent\/boot<1\/1099511627776<boot\/now<0\/4611686018427387903<now
def bE(rows:List En)(agent:Int):En:=if agent<0 then En.z else (rows[agent.toNat]?).getD En.z
structure gL(rows:List En):Prop where
 len:rows.length=64
 ep:∀e∈rows,0<=e.epoch/\e.epoch<=1099511627776
 in64:∀e∈rows,aG e.boot/\aG e.time
 zero:∀e∈rows,¬0<e.epoch->e=En.z
abbrev full(most:Int)(rows:List En):Prop:=most<=((bi 0 rows).length:Int)
def cG(most:Int)(rows:List En)(agent boot now:Int):List En×En×Bool×Int:=
 if bad agent boot now then (rows,En.z,false,11) else
 let x:=bE rows agent
 if 0<x.epoch/\x.boot=boot then (rows,x,false,0)
 else if 0<x.epoch/\boot<x.boot then (rows,En.z,false,22)
 else if x.epoch=1099511627776 then (rows,En.z,false,17)
 else if x.epoch=0/\full most rows then (rows,En.z,false,20)
 else (rows.set agent.toNat ⟨x.epoch+1,boot,now⟩,⟨x.epoch+1,boot,now⟩,true,0)
theorem gL.at{rows:List En}(h:gL rows)(agent:Int):0<=(bE rows agent).epoch/\(bE rows agent).epoch<=1099511627776/\aG (bE rows agent).boot/\aG (bE rows agent).time:=by
 unfold bE
 split
 .simp [En.z,aG]
 cases he:rows[agent.toNat]? with
 | none=>simp[En.z,aG]
 | some e=>exact⟨(h.ep e (VW he)).1,(h.ep e (VW he)).2,h.in64 e (VW he)⟩
theorem gL.set{rows:List En}(h:gL rows){k:Nat}{x:En}(c:0<x.epoch/\x.epoch<=1099511627776)(b:aG x.boot/\aG x.time):gL (rows.set k x) where
 len:=by simp[h.len]
 ep e a:=by
  rcases WW a with a|rfl
  .exact h.ep e a
  .omega
 in64 e a:=by
  rcases WW a with a|rfl
  .exact h.in64 e a
  .exact b
 zero e a:=by
  rcases WW a with a|rfl
  .exact h.zero e a
  .omega
theorem grant_ok{most:Int}{rows:List En}(h:gL rows)(agent boot now:Int):gL (cG most rows agent boot now).1:=by
 unfold cG;have:=h.at agent
 split
 .exact h
 .rename_i hb;simp only[bad,not_or,Int.not_lt]at hb;simp only
  split
  .exact h
  .split
   .exact h
   .split
    .exact h
    .split
     .exact h
     .exact h.set ⟨by grind,by grind⟩ ⟨by simp only[aG];omega,by simp only[aG];omega⟩
theorem I9{rows:List En}(agent:Int):aK agent (bi 0 rows)=if 0<(bE rows agent).epoch then some (bE rows agent) else none:=by
 by_cases h0:agent<0
 .have:aK agent (bi 0 rows)=none:=eB.2 λh=>by
   obtain⟨p,a,b⟩:=V8.1 h;have:=qn a;omega
  rw[this,bE,V1 h0];rfl
 .have:=zT (i:=0) (l:=rows) (k:=agent.toNat);rw[show ((0+agent.toNat:Nat):Int)=agent by omega]at this;rw[this];unfold bE;rw[Vz h0]
  grind [En.z]
theorem gL.rowZ{rows:List En}(h:gL rows)(agent:Int)(a:¬0<(bE rows agent).epoch):bE rows agent=En.z:=by
 unfold bE at a ⊢
 split
 .rfl
 rename_i b;rw[Vz b]at a
 cases he:rows[agent.toNat]? with
 | none=>rfl
 | some e=>rw[he]at a;exact h.zero e (VW he) a
theorem wG{rows:List En}(h:gL rows){agent:Int}:(aK agent (bi 0 rows)).getD En.z=bE rows agent:=by
 rw[I9]
 split
 .rfl
 .rename_i a;exact (h.rowZ agent a).symm
theorem zU{rows:List En}(h:gL rows){agent:Int}:(aK agent (bi 0 rows)).isSome=decide (0<(bE rows agent).epoch):=by
 grind [I9]
theorem Rj:gL (List.replicate 64 En.z) where
 len:=by simp
 ep e he:=by rw[List.eq_of_mem_replicate he];decide
 in64 e he:=by grind [En.z,aG]
 zero e he _:=List.eq_of_mem_replicate he
theorem wH{rows:List En}(h:gL rows):(bi 0 rows).length<=64:=by
 rw[I8];exact W2 (List.length_filter_le _ _) (Nat.le_of_eq h.len)
namespace Ro
theorem mt56:hD Tryz.prog 514 2 332 aggE En.z:=lP Tryz.underlying514 (by kernel_rfl)
theorem ko2:jG Tryz.prog 2 aB:=ti Tryz.underlying2
abbrev rollC(rb mb:Nat)(most:Int):aD:=cellsA rb [aB most,.map (some mb)] 516
abbrev mapE(mb:Nat)(rows:List En):aD:=mapA aB aggE mb (bi 0 rows)
section
variable {rb mb sb:Nat}{most:Int}{rows:List En}{F:List aD}{H:aC}{K:KQ}
theorem Rk{a b n:Int}:bO Tryz.prog 413 #[aB a,aB b,aB n] H (.bool (!decide (bad a b n))):=by
 refine cM 413 28 ⟨congrArg Value.bool ?_,rfl⟩
 grind
theorem New_spec(h:aA H F)(k1:most<1\/64<most->K (.tuple #[.pointer none,aB 11]) H)
  (k2:¬(most<1\/64<most)->∀rb mb H',aA H' (rollC rb mb most::mapE mb (List.replicate 64 En.z)::F)->K (.tuple #[.pointer (some ⟨rb,0,none⟩),aB 0]) H') :
  CF 225 #[aB most] H K:=by
 refine cM 225 476 ⟨λa=>k1 (by grind),λa=>?_⟩
 refine h.alm aB aggE λmb _ h=>?_
 refine h.al λrb _ h=>?_
 exact k2 (by grind) _ _ _ h
end
section
variable {rb mb sb:Nat}{most:Int}{rows:List En}{F:List aD}{H:aC}{K:KQ}
theorem Of_spec(ok:gL rows){agent:Int}(h:aA H (rollC rb mb most::mapE mb rows::F))
  (k:∀H',aA H' (rollC rb mb most::mapE mb rows::F)->K (.tuple #[aggE (bE rows agent),.bool (decide (0<(bE rows agent).epoch))]) H') :
  CF 284 #[.pointer (some ⟨rb,0,none⟩),aB agent] H K:=by
 refine cM 284 284 ?_;refine h.al λ_ _ h=>?_;refine⟨_,Ra2,?_⟩
 have a:=h.mp_get mt56 ko2 2 rfl (x:=agent);rw[wG ok,zU ok]at a;refine⟨_,_,_,_,a,?_⟩
 repeat (first|refine h.al λ_ _ h=>?_|refine St2 h λ_ h=>?_|refine⟨_,_,_,Rs2,?_⟩)
 exact k _ h.tl.tl
theorem Is_spec(ok:gL rows){agent epoch:Int}(h:aA H (rollC rb mb most::mapE mb rows::F))
  (k:∀H',aA H' (rollC rb mb most::mapE mb rows::F)->K (.bool (decide (0<(bE rows agent).epoch)&&decide ((bE rows agent).epoch=epoch))) H') :
  CF 350 #[.pointer (some ⟨rb,0,none⟩),aB agent,aB epoch] H K:=by
 refine cM 350 284 ?_;refine⟨_,Ra2,?_⟩;have a:=h.mp_get mt56 ko2 1 rfl (x:=agent);rw[wG ok,zU ok]at a;refine⟨_,_,_,_,a,?_⟩;refine h.al λ_ _ h=>?_;refine St2 h λ_ h=>?_;refine⟨_,λ_=>Ra2,?_⟩
 exact k _ h.tl
theorem Grant_spec(ok:gL rows){agent boot now:Int}(h:aA H (rollC rb mb most::mapE mb rows::F))
  (k:∀H',aA H' (rollC rb mb most::mapE mb (cG most rows agent boot now).1::F)->
   K (.tuple #[aggE (cG most rows agent boot now).2.1,.bool (cG most rows agent boot now).2.2.1,aB (cG most rows agent boot now).2.2.2]) H') :
  CF 351 #[.pointer (some ⟨rb,0,none⟩),aB agent,aB boot,aB now] H K:=by
 refine cM 351 0x1d12513c13c13cb11c ?_;refine h.al λ_ _ h=>?_
 refine⟨_,Rk,λm=>?_,λm=>?_⟩
 .have hb:bad agent boot now:=by simpa using m
  have e:cG most rows agent boot now=(rows,En.z,false,11):=V1 hb;rw[e]at k;refine St1 h λ_ h=>?_;refine⟨_,_,_,Rs1,?_⟩
  exact k _ h.tl
 .have hb:¬bad agent boot now:=by grind
  have u:0<=agent:=by grind
  refine⟨_,Ra2,?_⟩;have n:=h.mp_get mt56 ko2 2 rfl (x:=agent);rw[wG ok,zU ok]at n;refine⟨_,_,_,_,n,?_⟩;refine h.al λ_ _ h=>?_;refine St2 h λ_ h=>?_;refine⟨_,λ_=>Ra2,?_⟩
  have w:=ok.at agent;have t:=wH ok;refine⟨λc=>?_,λc=>?_⟩
  .simp only[V4,V5]at c;have e:cG most rows agent boot now=(rows,bE rows agent,false,0):=by unfold cG;grind
   rw[e]at k
   repeat (first|refine St2 h λ_ h=>?_|refine⟨_,_,_,Rs2,?_⟩)
   exact k _ h.tl.tl
  have n1:¬(0<(bE rows agent).epoch/\(bE rows agent).boot=boot):=λf=>by grind
  refine⟨_,λ_=>Ra2,?_⟩
  refine⟨λd=>?_,λd=>?_⟩
  .simp only[V4,V5]at d;have e:cG most rows agent boot now=(rows,En.z,false,22):=by unfold cG;grind
   rw[e]at k;refine St2 h λ_ h=>?_;refine⟨_,_,_,Rs2,?_⟩
   exact k _ h.tl.tl
  have n2:¬(0<(bE rows agent).epoch/\boot<(bE rows agent).boot):=λf=>by grind
  refine⟨_,λ_=>Ra2,?_⟩
  refine⟨λa=>?_,λa=>?_⟩
  .simp only[V4,V5]at a;have e:cG most rows agent boot now=(rows,En.z,false,17):=by unfold cG;grind
   rw[e]at k;refine St2 h λ_ h=>?_;refine⟨_,_,_,Rs2,?_⟩
   exact k _ h.tl.tl
  have n3:¬((bE rows agent).epoch=1099511627776):=λf=>by grind
  refine⟨λ_=>trivial,?_⟩;refine⟨_,λ_=>Ra3,?_⟩
  refine⟨_,λ_=>h.mp_len mt56 3 rfl,?_⟩
  refine⟨λ_=>trivial,?_⟩;refine⟨_,λ_=>Ra3,?_⟩
  refine⟨λb=>?_,λb=>?_⟩
  .simp only[V4,Wa,VG,V5]at b;have e:cG most rows agent boot now=(rows,En.z,false,20):=by unfold cG;grind
   rw[e]at k;refine St2 h λ_ h=>?_;refine⟨_,_,_,Rs2,?_⟩
   exact k _ h.tl.tl
  have n4:¬((bE rows agent).epoch=0/\full most rows):=λf=>by
   grind
  have e:cG most rows agent boot now=(rows.set agent.toNat ⟨(bE rows agent).epoch+1,boot,now⟩,⟨(bE rows agent).epoch+1,boot,now⟩,true,0):=by
   unfold cG;grind
  rw[e]at k;have s:i64.wrap ((bE rows agent).epoch+1)=(bE rows agent).epoch+1:=aJ;have j:agent.toNat<rows.length:=by simp only[bad,not_or,Int.not_lt]at hb;rw[ok.len];omega
  have hs:=I7 (i:=0) (x:=⟨(bE rows agent).epoch+1,boot,now⟩) (by grind) j;rw[show ((0+agent.toNat:Nat):Int)=agent by omega]at hs;simp only[mapE]at k;rw[tk hs,<-s]at k
  repeat (first|refine⟨_,Ra3,?_⟩|refine St3 h λ_ h=>?_|refine⟨_,_,_,Rs3,?_⟩)
  refine h.mp_update (α:=En) (v:=⟨_,_,_⟩) mt56 ko2 3 rfl λ_ h=>?_
  repeat (first|refine St3 h λ_ h=>?_|refine⟨_,_,_,Rs3,?_⟩)
  exact k _ h.tl.tl
end
section
variable {rb mb sb:Nat}{most:Int}{rows:List En}{F:List aD}{H:aC}{K:KQ}
theorem Clone_spec(h:aA H (rollC rb mb most::mapE mb rows::F))
  (k:∀a b H',aA H' (rollC a b most::mapE b rows::rollC rb mb most::mapE mb rows::F)->K (.pointer (some ⟨a,0,none⟩)) H') :
  CF 262 #[.pointer (some ⟨rb,0,none⟩)] H K:=by
 refine cM 262 28 ?_;refine⟨_,Ra1,?_⟩;refine⟨_,Ra1,?_⟩;refine Ex h 1 rfl λH' h _=>⟨_,rfl,?_⟩
 refine⟨h.r 1,?_⟩;refine h.al λ_ _ h=>?_
 exact k _ _ _ h
theorem All_spec(h:aA H F)(k:∀c0 H',aA H' (cellsA c0 [.pointer (some ⟨rb,0,none⟩)] 309::F)->K (.func (.func 386) #[] #[.pointer (some ⟨c0,0,none⟩)]) H') :
  CF 295 #[.pointer (some ⟨rb,0,none⟩)] H K:=by
 refine cM 295 28 ?_;refine h.al λ_ _ h=>?_
 exact k _ _ h
theorem All1_spec{l c0:Nat}(ok:gL rows)(A:Nat->aD)(v:aD)
  (h:aA H (A 0::cellsA c0 [.pointer (some ⟨rb,0,none⟩)] 309::rollC rb mb most::mapE mb rows::F))
  (D:∀j (I:j<(bi 0 rows).length) (G:List aD) (s:aC) (n:KQ),aA s (A j::G)->(∀H2,aA H2 (A (j+1)::G)->n (.bool true) H2)->(∀H2,aA H2 (v::G)->n (.bool false) H2)->
   eK Tryz.prog l [aB (bi 0 rows)[j].1,aggE (bi 0 rows)[j].2] s n)
  (k:∀H',aA H' (A (bi 0 rows).length::cellsA c0 [.pointer (some ⟨rb,0,none⟩)] 309::rollC rb mb most::mapE mb rows::F)->K (.tuple #[]) H')
  (O:∀H',aA H' (v::cellsA c0 [.pointer (some ⟨rb,0,none⟩)] 309::rollC rb mb most::mapE mb rows::F)->K (.tuple #[]) H') :
  CF 386 #[.func (.yield l) #[] #[],.pointer (some ⟨c0,0,none⟩)] H K:=by
 refine cN 386 0x11561239925113994 [[(15,sI)]] ?_;have E:=wH ok;refine⟨_,Ra3,?_⟩;refine⟨_,Ra3,?_⟩;refine Ex h 3 rfl λs C _=>⟨_,rfl,?_⟩
 refine Pg ⟨_,_,rfl,?_⟩;refine Ph C 0 rfl (λx N=>?_) (by omega) λa c H2 y _=>⟨_,_,_,rfl,?_⟩
 .obtain⟨p,M,rfl⟩:=V8.1 N;have:=qn M;have:=ok.len;unfold aG;omega
 rw[Ri]at y;refine⟨λt H'=>∃j:Nat,t=j/\j<=(bi 0 rows).length/\aA H' (A j::slA 2 1 a (bi 0 rows).length c ((aL (bi 0 rows)).map aB)::mapA aB aggE H.size (bi 0 rows)::cellsA c0 [.pointer (some ⟨rb,0,none⟩)] 309::rollC rb mb most::mapE mb rows::F),
  λt _=>(bi 0 rows).length-t.toNat,⟨0,rfl,VE _,y.o [2,0,1] 3⟩,?_⟩
 rintro t L ⟨j,rfl,I,m⟩;refine⟨λB=>?_,λB=>?_⟩
 .have f:j<(bi 0 rows).length:=by grind
  have b:=(m.sl_rd 1 rfl).at (j:=j) (by grind);have e:(aL (bi 0 rows))[j]'(by grind)=(bi 0 rows)[j].1:=by grind
  rw[e]at b;have i:=m.mp_get1 mt56 ko2 2 rfl (x:=(bi 0 rows)[j].1);have d:((bi 0 rows)[j].1,(bi 0 rows)[j].2)∈bi 0 rows:=V7 f;rw[nN I6 d]at i;refine⟨⟨by omega,by omega⟩,_,_,b.1,_,b.2,_,_,_,i,?_⟩;refine D j f _ L _ m (λJ w=>⟨true,rfl,λu=>(by cases u),λ_=>?_⟩) λJ w=>⟨false,rfl,λ_=>?_,λu=>(by cases u)⟩
  .conv=>whnf
   rw[aJ]
   grind
  .exact O _ (w.o [0] 3)
 .obtain rfl:j=(bi 0 rows).length:=by grind
  exact k _ (m.o [0] 3)
end
end Ro
structure Fl where
 t:Int
 out:Bool
 was:Bool
 held:Bool
deriving DecidableEq
def Fl.z:Fl:=⟨0,false,false,false⟩
abbrev encF(x:Fl):Xb:=[.int .i64 x.t,.bool x.out,.bool x.was,.bool x.held]
abbrev aggF(x:Fl):Value:=.agg #[.int .i64 x.t,.bool x.out,.bool x.was,.bool x.held]
abbrev FM:=List (Int×Fl)
abbrev isT(t:Int):Prop:=0<=t/\t<=4611686018427387903
abbrev isAg(a:Int):Prop:=0<=a/\a<64
structure MS where
 lag:Int
 now:Int
 value:Int
 m:FM
deriving DecidableEq
structure MOk(s:MS):Prop where
 l1:1<=s.lag
 l2:s.lag<=1099511627776
 n:isT s.now
 v1:-s.lag<=s.value
 v2:s.value<=4611686018427387903
 nd:(aL s.m).Nodup
 rows:∀p∈s.m,isAg p.1/\isT p.2.t
def MS.new(lag:Int):MS:=⟨lag,0,-lag,[]⟩
def MS.join(s:MS)(a t:Int):MS×Int:=
 if ¬isAg a\/¬isT t then (s,11) else
 match aK a s.m with
 | some _=>(s,18)
 | none=>({ s with m:=mset a ⟨t,false,false,false⟩ s.m },0)
def MS.raise(s:MS)(a t:Int):MS×Int:=
 match aK a s.m with
 | none=>(s,19)
 | some x=>if ¬isT t then (s,11) else ({ s with m:=mset a ⟨if t>x.t then t else x.t,x.out,x.was,x.held⟩ s.m },0)
def MS.hold(s:MS)(a:Int)(b:Bool):MS×Int:=
 match aK a s.m with
 | none=>(s,19)
 | some x=>({ s with m:=mset a ⟨x.t,x.out,x.was,b⟩ s.m },0)
def MS.leave(s:MS)(a:Int):MS×Int:=
 match aK a s.m with
 | none=>(s,19)
 | some _=>({ s with m:=bD a s.m },0)
def jw(lim:Int)(x:Fl):Fl:=⟨x.t,decide (x.t<lim),x.was||decide (x.t<lim),x.held⟩
def nu(lim:Int)(s:Int×Bool)(x:Fl):Int×Bool:=
 if ¬x.t<lim/\x.held=false/\(s.2=false\/x.t<s.1) then (x.t,true) else s
def iY(lim:Int)(m:FM):List Int->Int×Bool->Int×Bool
 | [],s=>s
 | k::r,s=>iY lim m r (nu lim s ((aK k m).getD Fl.z))
abbrev maxI(a b:Int):Int:=if b>a then b else a
def MS.tick(s:MS)(now:Int):MS×Int:=
 if ¬isT now\/now<s.now then (s,11) else
 ({ s with now:=now,value:=maxI s.value (iY (now-s.lag) s.m (sortI (aL s.m)) (now-s.lag,false)).1,m:=s.m.map λp=>(p.1,jw (now-s.lag) p.2) },0)
section
variable {κ α:Type}[DecidableEq κ]
theorem IB{k:κ}{v:α}:∀{m:List (κ×α)},(aL m).Nodup->k∈aL m->(m.map λp=>if p.1=k then (k,v) else p).Perm (mset k v m)
 | [],_,h=>by simp at h
 | p::r,hn,h=>by
  simp only[aL,VR,W1]at hn
  by_cases e:p.1=k
  .have a:k∉aL r:=by grind
   have e1:(r.map λp=>if p.1=k then (k,v) else p)=r:=by
    conv=>rhs;rw[<-List.map_id r]
    apply WN
    grind
   have e2:bD k (p::r)=r:=by
    have:bD k (p::r)=bD k r:=by grind [bD]
    grind [lJ,eB]
   rw[VR,V1 e,e1];unfold mset;rw[e2]
  .have a:k∈aL r:=by
    grind
   rw[VR,Vz e];refine ((IB (m:=r) hn.2 a).cons p).trans ?_;unfold mset;have:bD k (p::r)=p::bD k r:=by grind [bD]
   rw[this];exact .swap _ _ _
theorem zV{β:Type}{f:κ->α->β}{k:κ}:∀{m:List (κ×α)},aK k (m.map λp=>(p.1,f p.1 p.2))=(aK k m).map (f k)
 | []=>rfl
 | p::r=>by
  have a:=zV (f:=f) (k:=k) (m:=r)
  grind [aK]
omit [DecidableEq κ] in
theorem IC{β:Type}{f:κ->α->β}{m:List (κ×α)}:aL (m.map λp=>(p.1,f p.1 p.2))=aL m:=by simp_all
end
theorem IE:∀(n:Nat) (l:List Int),l.Nodup->(∀x∈l,0<=x/\x<(n:Int))->l.length<=n
 | 0,l,_,h=>by
  cases l with
  | nil=>simp
  | cons a r=>have:=h a (by simp);omega
 | n+1,l,hn,h=>by
  have c:=IE n (l.erase (n:Int)) (hn.erase _) (λx b=>by
   grind)
  grind
theorem MOk.le{s:MS}(h:MOk s):s.m.length<=64:=by
 have:=IE 64 (aL s.m) h.nd (λx b=>by
  obtain⟨p,a,rfl⟩:=V8.1 b;exact (h.rows p a).1)
 grind
theorem MOk.wf{s:MS}(h:MOk s):∀x∈aL s.m,aG x:=by
 intro x b;obtain⟨p,a,rfl⟩:=V8.1 b;have:=(h.rows p a).1;unfold aG;omega
theorem MOk.look{s:MS}(h:MOk s){a:Int}{x:Fl}(b:aK a s.m=some x):isAg a/\isT x.t:=h.rows _ (fL b)
theorem MOk.new{lag:Int}(b:1<=lag)(a:lag<=1099511627776):MOk (MS.new lag):=
 ⟨b,a,⟨by simp[MS.new],by simp[MS.new]⟩,Wc _,by grind [MS.new],by simp[MS.new],λp c=>by grind [MS.new]⟩
theorem MOk.mset{s:MS}(h:MOk s){a:Int}{x:Fl}(c:isAg a)(d:isT x.t):MOk { s with m:=mset a x s.m }:=
 ⟨h.l1,h.l2,h.n,h.v1,h.v2,rk h.nd,λp b=>by
  rcases V9.1 b with rfl|b
  .grind
  .exact h.rows p (mU.1 b).1⟩
theorem MOk.join{s:MS}(h:MOk s)(a t:Int):MOk (s.join a t).1:=by
 unfold MS.join
 split
 .exact h
 .rename_i b
  split
  .exact h
  .exact h.mset (by omega) (by simp only;omega)
theorem MOk.raise{s:MS}(h:MOk s)(a t:Int):MOk (s.raise a t).1:=by
 unfold MS.raise
 split
 .exact h
 .rename_i x b;have c:=h.look b
  split
  .exact h
  .refine h.mset c.1 ?_;simp only
   split <;> omega
theorem MOk.hold{s:MS}(h:MOk s)(a:Int)(b:Bool):MOk (s.hold a b).1:=by
 unfold MS.hold
 split
 .exact h
 .rename_i x c;exact h.mset (h.look c).1 (h.look c).2
theorem MOk.leave{s:MS}(h:MOk s)(a:Int):MOk (s.leave a).1:=by
 unfold MS.leave
 split
 .exact h
 .exact⟨h.l1,h.l2,h.n,h.v1,h.v2,tg h.nd,λp b=>h.rows p (mU.1 b).1⟩
theorem IG{lim:Int}{m:FM}(hm:∀p∈m,isT p.2.t):∀(a:List Int) (s:Int×Bool),(s.1<=4611686018427387903)->(iY lim m a s).1<=4611686018427387903
 | [],s,h=>h
 | k::r,s,h=>by
  refine IG hm r _ ?_;unfold nu
  split
  .simp only
   cases hk:aK k m with
   | none=>simp[Fl.z]
   | some x=>exact (hm _ (fL hk)).2
  .exact h
theorem MOk.tick{s:MS}(h:MOk s)(now:Int):MOk (s.tick now).1:=by
 unfold MS.tick
 split
 .exact h
 .rename_i c;have:=h.l1;have:=h.v1;have:=h.v2;have d:=IG (lim:=now-s.lag) (λp a=>(h.rows p a).2) (sortI (aL s.m)) (now-s.lag,false) (by grind)
  refine⟨h.l1,h.l2,⟨by grind,by grind⟩,?_,?_,?_,λp a=>?_⟩
  .grind
  .grind
  .exact (congrArg List.Nodup (IC (f:=λ_ x=>jw (now-s.lag) x) (m:=s.m))).mpr h.nd
  .obtain⟨q,b,rfl⟩:=V8.1 a;exact h.rows q b
def mjT(lim:Int)(m:FM)(l:List Int):FM:=m.map λp=>(p.1,if p.1∈l then jw lim p.2 else p.2)
theorem mjT_nil(lim:Int)(m:FM):mjT lim m []=m:=by
 unfold mjT
 simp_all
theorem mjT_all{lim:Int}{m:FM}{l:List Int}(h:∀x∈aL m,x∈l):mjT lim m l=m.map λp=>(p.1,jw lim p.2):=by
 unfold mjT;apply WN
 grind
theorem IH(lim:Int)(m:FM)(l:List Int):aL (mjT lim m l)=aL m:=IC (f:=λk x=>if k∈l then jw lim x else x) (m:=m)
theorem mjT_look(lim:Int)(m:FM)(l:List Int)(k:Int):aK k (mjT lim m l)=(aK k m).map λx=>if k∈l then jw lim x else x:=zV (f:=λk x=>if k∈l then jw lim x else x) (m:=m)
theorem mjT_step{lim:Int}{m:FM}{l:List Int}{k:Int}{x:Fl}(b:(aL m).Nodup)(c:aK k m=some x):(mset k (jw lim x) (mjT lim m l)).Perm (mjT lim m (l++[k])):=by
 have a:k∈aL (mjT lim m l):=by
  rw[IH];exact V8.2 ⟨_,fL c,rfl⟩
 refine (IB (by grind [IH]) a).symm.trans ?_;have:(mjT lim m l).map (λp=>if p.1=k then (k,jw lim x) else p)=mjT lim m (l++[k]):=by
  unfold mjT;rw[Wg];apply WN;intro p d;simp only[Function.comp_def,VJ,VH]
  by_cases e:p.1=k
  .have f:p.2=x:=by
    have:=nN b (show (p.1,p.2)∈m from d)
    grind
   grind
  grind
 rw[this]
theorem II(lim:Int)(m:FM):∀(l r:List Int) (s:Int×Bool),iY lim m (l++r) s=iY lim m r (iY lim m l s)
 | [],_,_=>rfl
 | k::l,r,s=>II lim m l r _
theorem Rl{l:List Int}(h:l.Nodup):(sortI l).Nodup:=(pM l).nodup_iff.2 h
theorem IJ{l:List Int}{x:Int}:x∈sortI l↔x∈l:=(pM l).mem_iff
theorem Rm{l:List Int}(h:l.Nodup){j:Nat}(a:j<l.length):l[j]∉l.take j:=by
 grind [List.getElem_of_mem,List.pairwise_iff_getElem]
namespace Ma
theorem mt45:hD Tryz.prog 409 2 334 aggF Fl.z:=lP Tryz.underlying409 (by kernel_rfl)
theorem ko2:jG Tryz.prog 2 aB:=ti Tryz.underlying2
abbrev markC(mb rb:Nat)(s:MS):aD:=cellsA mb [aB s.lag,aB s.now,aB s.value,.map (some rb)] 509
abbrev mapF(rb:Nat)(m:FM):aD:=mapA aB aggF rb m
section
variable {mb rb:Nat}{s:MS}{F:List aD}{H:aC}{K:KQ}
theorem nh{t:Int}:bO Tryz.prog 341 #[aB t] H (.bool (decide (isT t))):=by
 refine cM 341 28 ⟨congrArg Value.bool ?_,rfl⟩
 grind
theorem Rn{a:Int}:bO Tryz.prog 342 #[aB a] H (.bool (decide (isAg a))):=by
 refine cM 342 28 ⟨congrArg Value.bool ?_,rfl⟩
 grind
theorem Now_spec(h:aA H F)(i:Nat)(a:aS i F=markC mb rb s):bO Tryz.prog 292 #[.pointer (some ⟨mb,0,none⟩)] H (aB s.now):=by
 unfold bO;refine cM 292 28 ?_;exact⟨_,h.rd i a _,rfl,rfl⟩
theorem Value_spec(h:aA H F)(i:Nat)(a:aS i F=markC mb rb s):bO Tryz.prog 294 #[.pointer (some ⟨mb,0,none⟩)] H (aB s.value):=by
 unfold bO;refine cM 294 28 ?_;exact⟨_,h.rd i a _,rfl,rfl⟩
theorem New_spec{lag:Int}(h:aA H F)(k1:lag<1\/1099511627776<lag->K (.tuple #[.pointer none,aB 11]) H)
  (k2:1<=lag->lag<=1099511627776->∀mb rb H',aA H' (markC mb rb (MS.new lag)::mapF rb []::F)->K (.tuple #[.pointer (some ⟨mb,0,none⟩),aB 0]) H') :
  CF 223 #[aB lag] H K:=by
 refine cM 223 476 ⟨λa=>k1 (by grind),λa=>?_⟩
 have a:1<=lag/\lag<=1099511627776:=by grind
 refine h.alm aB aggF λrb _ h=>?_
 rw[aJ (x:=0-lag)];refine h.al λmb _ h=>k2 a.1 a.2 mb rb _ ?_
 have e:(0:Int)-lag=-lag:=by omega
 rw[e]at h;exact h
theorem Of_spec{a:Int}(h:aA H (markC mb rb s::mapF rb s.m::F))
  (k:∀H',aA H' (markC mb rb s::mapF rb s.m::F)->K (.tuple #[aggF ((aK a s.m).getD Fl.z),.bool (aK a s.m).isSome]) H') :
  CF 285 #[.pointer (some ⟨mb,0,none⟩),aB a] H K:=by
 refine cM 285 284 ?_;refine h.al λ_ _ h=>?_;refine⟨_,Ra2,?_⟩
 refine⟨_,_,_,_,_,h.mp_get mt45 ko2 2 rfl,?_⟩
 repeat (first|refine h.al λ_ _ h=>?_|refine St3 h λ_ h=>?_|refine⟨_,_,_,_,Rs3,?_⟩)
 exact k _ h.tl.tl
theorem Join_spec{a t:Int}(h:aA H (markC mb rb s::mapF rb s.m::F))
  (k:∀H',aA H' (markC mb rb (s.join a t).1::mapF rb (s.join a t).1.m::F)->K (aB (s.join a t).2) H') :
  CF 353 #[.pointer (some ⟨mb,0,none⟩),aB a,aB t] H K:=by
 refine cM 353 30546716 ?_;refine⟨_,Rn,_,λ_=>nh,λc=>?_,λc=>?_⟩
 .have e:s.join a t=(s,11):=V1 (by grind);rw[e]at k;exact k _ h
 have d:¬(¬isAg a\/¬isT t):=by grind
 refine⟨_,Ra1,?_⟩;refine⟨_,_,_,_,_,h.mp_get mt45 ko2 1 rfl,?_⟩;refine h.al λ_ _ h=>?_;refine St1 h λ_ h=>?_
 cases hl:aK a s.m with
 | some x=>
  have e:s.join a t=(s,18):=by unfold MS.join;grind
  rw[e]at k;exact⟨λ_=>k _ h.tl,λb=>by cases b⟩
 | none=>
  have e:s.join a t=({ s with m:=mset a ⟨t,false,false,false⟩ s.m },0):=by unfold MS.join;grind
  rw[e]at k;refine⟨λb=>(by cases b),λ_=>?_⟩
  refine⟨_,Ra2,?_⟩;exact h.mp_update (α:=Fl) (v:=⟨t,false,false,false⟩) mt45 ko2 2 rfl λH' h=>k _ h.tl
theorem Leave_spec{a:Int}(h:aA H (markC mb rb s::mapF rb s.m::F))
  (k:∀H',aA H' (markC mb rb (s.leave a).1::mapF rb (s.leave a).1.m::F)->K (aB (s.leave a).2) H') :
  CF 352 #[.pointer (some ⟨mb,0,none⟩),aB a] H K:=by
 refine cM 352 1186588 ?_;refine⟨_,Ra1,?_⟩;refine⟨_,_,_,_,_,h.mp_get mt45 ko2 1 rfl,?_⟩;refine h.al λ_ _ h=>?_;refine St1 h λ_ h=>?_
 cases hl:aK a s.m with
 | none=>
  have e:s.leave a=(s,19):=by grind [MS.leave]
  rw[e]at k;exact⟨λ_=>k _ h.tl,λb=>by cases b⟩
 | some x=>
  have e:s.leave a=({ s with m:=bD a s.m },0):=by grind [MS.leave]
  rw[e]at k;refine⟨λb=>(by cases b),λ_=>?_⟩
  refine⟨_,Ra2,?_⟩;exact h.mp_delete mt45 ko2 2 rfl λH' h=>k _ h.tl
theorem Clone_spec(h:aA H (markC mb rb s::mapF rb s.m::F))
  (k:∀b a H',aA H' (markC b a s::mapF a s.m::markC mb rb s::mapF rb s.m::F)->K (.pointer (some ⟨b,0,none⟩)) H') :
  CF 263 #[.pointer (some ⟨mb,0,none⟩)] H K:=by
 refine cM 263 4380 ?_;refine⟨_,_,_,_,h.q 0,?_⟩
 repeat (first|refine h.al λ_ _ h=>?_|refine⟨_,Ra2,?_⟩|refine St2 h λ_ h=>?_)
 refine Ez h 2 rfl λH' h _=>⟨_,rfl,?_⟩
 refine h.st 1 rfl rfl λ_ h=>?_
 exact k _ _ _ (h.o [1,0,2,3] 4)
theorem zW{a:Int}{f:FuncId}{cap:Xb}(c:bK f X.calls=true)(h:aA H (markC mb rb s::mapF rb s.m::F))
  (k1:aK a s.m=none->∀H',aA H' (markC mb rb s::mapF rb s.m::F)->K (aB 19) H')
  (hb:∀x,aK a s.m=some x->∀b n,aA n (cellsA b (encF x) 334::markC mb rb s::mapF rb s.m::F)->
   CF f ⟨(.pointer (some ⟨b,0,none⟩))::cap⟩ n λu H2=>(∃r:Int,u=aB r/\r≠0/\K (aB r) H2)\/
    (u=aB 0/\∃e k,aA H2 (cellsA b (encF e) 334::markC mb rb s::mapF rb s.m::k)/\∀t,aA t (markC mb rb s::mapF rb (mset a e s.m)::k)->K (aB 0) t)) :
  CF 358 #[.pointer (some ⟨mb,0,none⟩),aB a,.func (.func f) #[] ⟨cap⟩] H K:=by
 refine cM 358 298982172 ?_;refine⟨_,Ra1,?_⟩;have d:=h.mp_get mt45 ko2 1 rfl (x:=a)
 cases hm:aK a s.m with
 | none=>
  rw[hm]at d;refine⟨_,_,_,_,_,d,?_⟩;refine h.al λ_ _ h=>?_;refine St1 h λ_ h=>?_
  exact⟨λ_=>k1 hm _ h.tl,λc=>by cases c⟩
 | some x=>
  rw[hm]at d;refine⟨_,_,_,_,_,d,?_⟩;refine h.al λ_ _ h=>?_;refine St1 h λ_ h=>?_
  refine⟨λc=>(by cases c),λ_=>⟨c,(hb x hm _ _ h).mono λu H2 w=>?_⟩⟩
  rcases w with ⟨r,rfl,y,j⟩|⟨rfl,e,k,i,j⟩
  .exact⟨r,rfl,λ_=>j,λc=>V0 (by grind) y⟩
  .refine⟨0,rfl,λc=>by simp at c,λ_=>?_⟩
   refine⟨_,i.r 1,_,_,_,_,i.q 0,?_⟩;exact i.mp_update (α:=Fl) (v:=e) mt45 ko2 2 rfl λH' h=>j _ h.tl
theorem Raise_spec{a t:Int}(h:aA H (markC mb rb s::mapF rb s.m::F))
  (k:∀H',aA H' (markC mb rb (s.raise a t).1::mapF rb (s.raise a t).1.m::F)->K (aB (s.raise a t).2) H') :
  CF 364 #[.pointer (some ⟨mb,0,none⟩),aB a,aB t] H K:=by
 refine cM 364 28 ?_;refine h.al λc _ h=>?_
 refine zW (F:=cellsA c [aB t] 2::F) (by kernel_rfl) (h.o [1,2,0] 3) (λi H' h=>⟨_,rfl,?_⟩) λx u b j h=>?_
 .have e:s.raise a t=(s,19):=by grind [MS.raise]
  rw[e]at k;exact k _ (h.o [0,1] 3)
 refine cM 426 7452 ?_;refine⟨_,h.r 3,_,nh,λd=>?_,λd=>?_⟩
 .have f:¬isT t:=by grind
  have e:s.raise a t=(s,11):=by unfold MS.raise;grind
  rw[e]at k;exact .inl ⟨11,rfl,by decide,_,rfl,k _ (h.o [1,2] 4)⟩
 .have f:¬¬isT t:=by grind
  have e:s.raise a t=({ s with m:=mset a ⟨if t>x.t then t else x.t,x.out,x.was,x.held⟩ s.m },0):=by unfold MS.raise;grind
  rw[e]at k;refine⟨_,h.r 0,_,h.r 3,?_⟩;refine h.st 0 rfl rfl λ_ h=>.inr ⟨rfl,⟨if t>x.t then t else x.t,x.out,x.was,x.held⟩,_,h,λn h=>⟨_,rfl,?_⟩⟩
  exact k _ (h.o [0,1] 3)
theorem Hold_spec{a:Int}{v:Bool}(h:aA H (markC mb rb s::mapF rb s.m::F))
  (k:∀H',aA H' (markC mb rb (s.hold a v).1::mapF rb (s.hold a v).1.m::F)->K (aB (s.hold a v).2) H') :
  CF 255 #[.pointer (some ⟨mb,0,none⟩),aB a,.bool v] H K:=by
 refine cM 255 28 ?_;refine h.al λc _ h=>?_
 refine zW (F:=cellsA c [.bool v] 4::F) (by kernel_rfl) (h.o [1,2,0] 3) (λd H' h=>⟨_,rfl,?_⟩) λx j b f h=>?_
 .have e:s.hold a v=(s,19):=by grind [MS.hold]
  rw[e]at k;exact k _ (h.o [0,1] 3)
 refine cM 359 284 ?_;have e:s.hold a v=({ s with m:=mset a ⟨x.t,x.out,x.was,v⟩ s.m },0):=by grind [MS.hold]
 rw[e]at k;refine⟨_,h.r 3,?_⟩;refine h.st 0 rfl rfl λ_ h=>.inr ⟨rfl,⟨x.t,x.out,x.was,v⟩,_,h,λi h=>⟨_,rfl,?_⟩⟩
 exact k _ (h.o [0,1] 3)
end
section
variable {mb rb:Nat}{s:MS}{F:List aD}{H:aC}{K:KQ}
theorem All_spec(h:aA H F)(k:∀c0 H',aA H' (cellsA c0 [.pointer (some ⟨mb,0,none⟩)] 310::F)->K (.func (.func 467) #[] #[.pointer (some ⟨c0,0,none⟩)]) H') :
  CF 427 #[.pointer (some ⟨mb,0,none⟩)] H K:=by
 refine cM 427 28 ?_;refine h.al λ_ _ h=>?_
 exact k _ _ h
abbrev dp(s:MS):List Int:=sortI (aL s.m)
abbrev atF(s:MS)(a:Int):Fl:=(aK a s.m).getD Fl.z
theorem ks_len:(dp s).length=s.m.length:=by simp[dp,vl,aL]
theorem All1_spec{l c0:Nat}(ok:MOk s)(A:Nat->aD)(y:aD)(B:aD)
  (h:aA H (markC mb rb s::mapF rb s.m::B::cellsA c0 [.pointer (some ⟨mb,0,none⟩)] 310::F))
  (v:∀G H',aA H' (markC mb rb s::mapF rb s.m::B::G)->aA H' (A 0::G))
  (J:∀j (M:j<(dp s).length) (G:List aD) (i:aC) (f:KQ),aA i (A j::G)->(∀H2,aA H2 (A (j+1)::G)->f (.bool true) H2)->(∀H2,aA H2 (y::G)->f (.bool false) H2)->
   eK Tryz.prog l [aB (dp s)[j],aggF (atF s (dp s)[j])] i f)
  (k:∀H',aA H' (A (dp s).length::cellsA c0 [.pointer (some ⟨mb,0,none⟩)] 310::F)->K (.tuple #[]) H')
  (P:∀H',aA H' (y::cellsA c0 [.pointer (some ⟨mb,0,none⟩)] 310::F)->K (.tuple #[]) H') :
  CF 467 #[.func (.yield l) #[] #[],.pointer (some ⟨c0,0,none⟩)] H K:=by
 refine cN 467 0x11561239925113994 [[(15,sI)]] ?_;have L:=ok.le;have I:(dp s).length=s.m.length:=ks_len;refine⟨_,Ra4,?_⟩;refine⟨_,Ra4,?_⟩;refine Ez h 1 rfl λi E _=>⟨_,rfl,?_⟩
 refine Pn ⟨_,_,rfl,?_⟩;refine Po E 0 rfl ok.wf (by omega) λa c H2 n _=>⟨_,_,_,rfl,?_⟩
 have n:=v _ _ (n.o [2,3,4,0,1] 5);refine⟨λt H'=>∃j:Nat,t=j/\j<=(dp s).length/\aA H' (A j::slA 2 1 a s.m.length c ((dp s).map aB)::mapF H.size s.m::cellsA c0 [.pointer (some ⟨mb,0,none⟩)] 310::F),
  λt _=>(dp s).length-t.toNat,⟨0,rfl,VE _,n⟩,?_⟩
 rintro t O ⟨j,rfl,M,e⟩;refine⟨λD=>?_,λD=>?_⟩
 .have b:j<(dp s).length:=by grind
  have d:=(e.sl_rd 1 rfl).at b;have w:=e.mp_get1 mt45 ko2 2 rfl (x:=(dp s)[j]);refine⟨⟨by omega,by omega⟩,_,_,d.1,_,d.2,_,_,_,_,w,?_⟩;refine J j b _ O _ e (λN C=>⟨true,rfl,λu=>(by cases u),λ_=>?_⟩) λN C=>⟨false,rfl,λ_=>?_,λu=>(by cases u)⟩
  .conv=>whnf
   rw[aJ]
   grind
  .exact P _ (C.o [0,3] 4)
 .obtain rfl:j=(dp s).length:=by grind
  exact k _ (e.o [0,3] 4)
theorem Rq{b c0 c1 c2 c3:Nat}{x:Fl}{now least:Int}{a:Bool}(i:1<=s.lag/\s.lag<=1099511627776)(f:isT now)
  (h:aA H (cellsA b (encF x) 334::markC mb rb s::cellsA c0 [aB now] 2::cellsA c1 [.pointer (some ⟨mb,0,none⟩)] 310::cellsA c2 [.bool a] 4::cellsA c3 [aB least] 2::F))
  (k:∀H',aA H' (cellsA b (encF (jw (now-s.lag) x)) 334::markC mb rb s::cellsA c0 [aB now] 2::cellsA c1 [.pointer (some ⟨mb,0,none⟩)] 310::cellsA c2 [.bool (nu (now-s.lag) (least,a) x).2] 4::cellsA c3 [aB (nu (now-s.lag) (least,a) x).1] 2::F)->K (aB 0) H') :
  CF 428 #[.pointer (some ⟨b,0,none⟩),.pointer (some ⟨c0,0,none⟩),.pointer (some ⟨c1,0,none⟩),.pointer (some ⟨c2,0,none⟩),.pointer (some ⟨c3,0,none⟩)] H K:=by
 refine Om ?_;refine⟨_,h.r 0,_,h.r 2,_,h.r 3,dX ⟨_,h.r 1,?_⟩⟩;dsimp only;rw[aJ (x:=now-s.lag)];refine h.st 0 rfl rfl λ_ h=>?_
 refine⟨_,h.r 0,λ_=>trivial,_,λ_=>h.r 0,?_⟩
 refine h.st 0 rfl rfl λ_ h=>?_
 refine⟨_,h.r 0,λ_=>trivial,_,λ_=>h.r 0,_,λ_=>h.r 4,λ_=>trivial,_,λ_=>h.r 0,_,λ_=>h.r 5,?_⟩
 intro m c;refine⟨λd=>?_,λd=>?_⟩
 .have e:nu (now-s.lag) (least,a) x=(x.t,true):=V1 (by
   grind)
  rw[e]at k;refine⟨_,h.r 0,?_⟩;refine h.st 5 rfl rfl λ_ h=>h.st 4 rfl rfl λ_ h=>c _ ?_
  exact k _ h
 .have e:nu (now-s.lag) (least,a) x=(least,a):=Vz (λj=>by
   grind)
  rw[e]at k;exact c _ (k _ h)
def tkA(mb rb b b1 lb fb l:Nat)(R:Loop)(s:MS)(now:Int)(j:Nat):aD:=
 star [markC mb rb { s with now:=now },mapF rb (mjT (now-s.lag) s.m ((dp s).take j)),cellsA b [.pointer (some ⟨mb,0,none⟩)] 310,cellsA b1 [aB now] 2,
  cellsA lb [aB (iY (now-s.lag) s.m ((dp s).take j) (now-s.lag,false)).1] 2,cellsA fb [.bool (iY (now-s.lag) s.m ((dp s).take j) (now-s.lag,false)).2] 4,pt l (.loop R)]
theorem Rr{b b1 lb fb j:Nat}{now:Int}{a d:aC}{R:Loop}{G:List aD}{e:KQ}(ok:MOk s)(k:isT now)(c:j<(dp s).length)
  (h:aA d (tkA mb rb b b1 lb fb (a.size+1) R s now j::G)) (t:∀H2,aA H2 (tkA mb rb b b1 lb fb (a.size+1) R s now (j+1)::G)->e (.bool true) H2) :
  yS.y1 b b1 lb 0 fb 0 a R [aB (dp s)[j],aggF (atF s (dp s)[j])] d e:=by
 have h:=h.open;unfold yS.y1;refine⟨_,_,_,_,_,rfl,h.getO 6 rfl,h.getO 6 rfl,h.stl 6 rfl λE h=>⟨_,h.r 2,?_⟩⟩
 obtain⟨x,A⟩:∃x,aK (dp s)[j] s.m=some x:=by
  cases hm:aK (dp s)[j] s.m with
  | some x=>grind
  | none=>grind [IJ,List.getElem_mem,eB]
 have B:=Rm (Rl ok.nd) c;have v:aK (dp s)[j] (mjT (now-s.lag) s.m ((dp s).take j))=some x:=by grind [mjT_look]
 have n:(dp s).take (j+1)=(dp s).take j++[(dp s)[j]]:=VU c;refine zW (s:={ s with now:=now,m:=mjT (now-s.lag) s.m ((dp s).take j) }) (f:=428) (by kernel_rfl) h (λw=>by grind) λy u bb F h=>?_
 obtain rfl:x=y:=by grind
 refine Rq (s:={ s with now:=now }) ⟨ok.l1,ok.l2⟩ k (h.o [0,1,4,3,6,5,2,7] 8) λC h=>.inr ⟨rfl,jw (now-s.lag) x,_,h.o [0,1,6,2,3,4,5,7] 8,λD h=>⟨_,rfl,?_⟩⟩
 refine⟨h.getO 6 rfl,t _ ?_⟩;have h:=h.setO 6 rfl (.loop R);unfold tkA;refine aA.shut [_,_,_,_,_,_,_] ?_;have em:mapF rb (mset (dp s)[j] (jw (now-s.lag) x) (mjT (now-s.lag) s.m ((dp s).take j)))=mapF rb (mjT (now-s.lag) s.m ((dp s).take j++[(dp s)[j]])):=tk (mjT_step ok.nd A);rw[n,II,<-em];have i:iY (now-s.lag) s.m [(dp s)[j]] (iY (now-s.lag) s.m ((dp s).take j) (now-s.lag,false))=nu (now-s.lag) (iY (now-s.lag) s.m ((dp s).take j) (now-s.lag,false)) x:=by
  show nu _ _ ((aK _ s.m).getD Fl.z)=_
  grind
 rw[i];exact h.o [0,1,3,2,5,4,6] 7
theorem Tick_spec{now:Int}(ok:MOk s)(h:aA H (markC mb rb s::mapF rb s.m::F))
  (k:∀H',aA H' (markC mb rb (s.tick now).1::mapF rb (s.tick now).1.m::F)->K (aB (s.tick now).2) H') :
  CF 365 #[.pointer (some ⟨mb,0,none⟩),aB now] H K:=by
 refine Ov ?_;refine h.al λb _ h=>h.al λb1 _ h=>?_
 refine⟨_,h.r 0,_,nh,_,λ_=>h.r 0,_,λ_=>h.rd (1) rfl _,λ_=>trivial,_,λ_=>h.r 2,λt=>?_,λt=>?_⟩
 .have e:s.tick now=(s,11):=V1 (by grind);rw[e]at k;exact k _ h.tl.tl
 have a:¬(¬isT now\/now<s.now):=by
  grind
 have n:isT now:=by
  rcases Classical.em (isT now) with h|h
  .exact h
  .exact V0 (Or.inl h) a
 have e:s.tick now=({ s with now:=now,value:=maxI s.value (iY (now-s.lag) s.m (sortI (aL s.m)) (now-s.lag,false)).1,m:=s.m.map λp=>(p.1,jw (now-s.lag) p.2) },0):=Vz a
 rw[e]at k;have y:=ok.l1;have u:=ok.l2;refine⟨_,h.r 1,_,h.r 0,dX (h.st 2 rfl rfl λ_ h=>?_)⟩
 intro I E;have fin:∀lb fb H',aA H' (cellsA b1 [aB now] 2::cellsA b [.pointer (some ⟨mb,0,none⟩)] 310::cellsA lb [aB (now-s.lag)] 2::cellsA fb [.bool false] 4::markC mb rb { s with now:=now }::mapF rb s.m::F)->I lb 0 fb 0 H':=by
  intro lb fb H' h;refine E _ _ _ _ _ ?_;refine⟨_,h.r 1,All_spec h λc0 i h=>⟨_,_,rfl,rfl,λR f d w=>?_⟩⟩
  have h:=h.rng R;have h:aA _ (markC mb rb { s with now:=now }::mapF rb s.m::star [cellsA b [.pointer (some ⟨mb,0,none⟩)] 310,cellsA b1 [aB now] 2,cellsA lb [aB (now-s.lag)] 2,cellsA fb [.bool false] 4,pt (i.size+1) (.loop R)]::cellsA c0 [.pointer (some ⟨mb,0,none⟩)] 310::pt i.size (.deferred (some []))::F):=
   (aA.shut [_,_,_,_,_] (h.o [4,3,5,6,0,7,8,2,1] 9)).o [1,2,0] 3
  refine All1_spec (s:={ s with now:=now }) ⟨ok.l1,ok.l2,n,ok.v1,ok.v2,ok.nd,ok.rows⟩ (λj=>tkA mb rb b b1 lb fb (i.size+1) R s now j) (pur False) _ h (λG H' h=>?_)
   (λj C G N M v B _=>w _ _ _ (Rr ok n C v B)) (λD c=>?_) (λD c=>(aA.consP c).1.elim)
  .unfold tkA;rw[W9,mjT_nil];refine aA.shut [_,_,_,_,_,_,_] ?_;exact ((h.o [2,0,1] 3).open).o [5,6,0,1,2,3,4] 7
  .have h:=aA.open (A:=[_,_,_,_,_,_,_]) c;have e1:(dp { s with now:=now }).length=(dp s).length:=rfl;rw[e1,VM (VD _),mjT_all (λx J=>IJ.2 J)]at h
   refine⟨.ready,none,by decide,by rw[kT f d];exact h.getO 6 rfl,h.stl 6 rfl λL h=>⟨rfl,?_⟩⟩
   refine⟨_,h.r 2,_,h.r 2,dX ⟨_,h.r 0,_,h.r 4,dX (h.st 0 rfl rfl λ_ h=>⟨h.getO 8 rfl,?_⟩)⟩⟩
   have h:=h.setO 8 rfl (.deferred none);exact k _ (h.o [0,1] 9)
 refine⟨_,h.r 0,_,h.r 1,dX ⟨_,h.r 2,?_⟩⟩;dsimp only;rw[aJ (x:=now-s.lag)];refine⟨h.al λlb _ h=>⟨h.r 3,h.r 2,h.r 1,h.al λfb _ h=>⟨h.r 4,h.r 3,h.r 2,h.st 1 rfl rfl λ_ h=>h.st 0 rfl rfl λ_ h=>?_⟩⟩,
  h.al λfb _ h=>⟨h.r 3,h.r 2,h.r 1,h.al λlb _ h=>⟨h.r 4,h.r 3,h.r 2,h.st 0 rfl rfl λ_ h=>h.st 1 rfl rfl λ_ h=>?_⟩⟩⟩
 .exact fin lb fb _ (h.o [2,3,1,0] 4)
 .exact fin lb fb _ (h.o [2,3,0,1] 4)
end
end Ma
theorem Rs{P:Program}{t e:TypeId}{n:Nat}{f:Nat->Int}{i:Int}(b:P.underlying t=some (.array n e))(j:∀w,(Go.sizeOf e).run P w=.ok 1 w)(c:∀w,(Go.isAgg e).run P w=.ok false w)(d:0<=i)(h:i<n) :
  mL P (Instr.index t (.agg ⟨bU .u64 f n 0⟩) (aB i)) (.int .u64 (f i.toNat)):=by
 intro w;have a:=tJ .u64 f n 0 i.toNat (by omega);rw[fJ]at a;simp only[Instr.index,asIntOf,Sem.run_bind,Sem.run_pure,Result.andThen_ok,ei b];rw[V1 ⟨d,h⟩];simp only[Sem.run_bind,j,Result.andThen_ok,Wn,part,c];simp[a]
def oQ:Nat->RS->List (Nat×Nat)×RS
 | 0,s=>([],s)
 | n+1,s=>(((bN s).1,(bN (bN s).2).1)::(oQ n (bN (bN s).2).2).1,(oQ n (bN (bN s).2).2).2)
def qo(prev:Option Nat)(p:Nat):Bool:=match prev with|some x=>decide (p<=x)|none=>false
def rN:List (Nat×Nat)->Option Nat->(Nat->Int)->Option (Nat->Int)
 | [],_,h=>some h
 | (p,q)::r,prev,h=>if qo prev p=true\/65<=p then none else if q=0\/9223372036854775807<q then none else rN r (some p) (fx h p q)
def qp(ps:List (Nat×Nat))(q:Nat):Option Nat:=if q=0 then none else some (ps.getD (q-1) (0,0)).1
def IK(n0 n1 n2:Nat)(lo hi:Int)(t:List Int)(ps:List (Nat×Nat)):Cl×Int:=
 if 9223372036854775807<n0\/9223372036854775807<n1\/9223372036854775807<n2 then (Cl.z,10) else
 if t.length≠16 then (Cl.z,10) else
 match rN ps none Z0 with
 | none=>(Cl.z,10)
 | some h=>if gD ⟨n0,jt t,lo,hi,n1,n2,h⟩ then (⟨n0,jt t,lo,hi,n1,n2,h⟩,0) else (Cl.z,10)
def rO(bs:List Int):Cl×Int:=
 let a:=bN ⟨0,bs⟩
 let b:=bN a.2
 let c:=bN b.2
 let lo:=dZ c.2
 let hi:=dZ lo.2
 let t:=bH 16 hi.2
 let n:=bY 65 t.2
 let p:=oQ n.1.toNat n.2
 if (jM p.2).e≠0 then (Cl.z,(jM p.2).e) else IK a.1 b.1 c.1 lo.1 hi.1 t.1 p.1
theorem IL{s:RS}(h:aP s.bs):aP (dZ s).2.bs:=lf h
theorem IM(s:RS):(dZ s).2.bs.length<=s.bs.length:=nl s
theorem cRes_lt{s:RS}{m:Int}(h:aP s.bs)(hm:0<=m):0<=(bY m s).1/\(bY m s).1<=m:=by
 unfold bY
 grind
theorem sl279:SlT Tryz.prog 247 249 2 16:=eG (by kernel_rfl)
abbrev encP(p:Nat×Nat):Xb:=[U64 p.1,U64 p.2]
theorem wI(p:Nat×Nat):(encP p).length=2:=rfl
def f3(a b c:Nat):Nat->Int:=λi=>match i with|0=>(a:Int)|1=>(b:Int)|_=>(c:Int)
section
variable {F L:List aD}{H:aC}{K:KQ}
theorem idx278{a b c:Nat}{i:Int}(d:0<=i)(e:i<3):mL Tryz.prog (Instr.index 246 (.agg #[U64 a,U64 b,U64 c]) (aB i)) (.int .u64 (f3 a b c i.toNat)):=
 Rs (f:=f3 a b c) (n:=3) Tryz.underlying246 Tryz.sizeOf294 Tryz.isAgg294 d (by omega)
theorem Rt{a:Xa}{c n:Nat}{bs:List Int}(hn:bs.length=n)(hb:aP bs)(h:aA H F)(ha:∀H,aA H F->aN H a (bs.map U8))(hl:n<=10000000000)
  (k:∀H',aA H' F->K (.tuple #[aggC (rO bs).1,aB (rO bs).2]) H'):CF 61 #[.slice a n c] H K:=by
 subst hn;refine OW ?_;unfold rO at k;dsimp only at k;refine h.al λb _ h=>?_
 refine vK (bs:=bs) h (λH h=>ha H h.tl) (by omega) λrb H1 h=>⟨_,rfl,?_⟩
 have E:aP (⟨0,bs⟩:RS).bs:=hb;have hL0:(⟨0,bs⟩:RS).bs.length<=10000000000:=hl;refine nY h E (by omega) λH2 h=>⟨_,rfl,?_⟩
 have N:=lf E;have hL1:=nl (⟨0,bs⟩:RS);generalize bN ⟨0,bs⟩=r1 at *;refine nY h N (by omega) λH3 h=>⟨_,rfl,?_⟩
 have M:=lf N;have r0:=nl r1.2;generalize bN r1.2=r2 at *;refine nY h M (by omega) λH4 h=>⟨_,rfl,?_⟩
 have I:=lf M;have l2:=nl r2.2;generalize bN r2.2=r3 at *;refine h.al λb1 _ h=>?_
 refine h.sta 0 rfl rfl λH6 h=>?_
 have h:=h.o [1,0] 2;refine zv h I (by omega) λH7 h=>⟨_,rfl,?_⟩
 have P:=IL I;have hL4:=IM r3.2;have U:aG (dZ r3.2).1:=zr _;generalize dZ r3.2=r4 at *;refine zv h P (by omega) λH8 h=>⟨_,rfl,?_⟩
 have J:=IL P;have l3:=IM r4.2;have S:aG (dZ r4.2).1:=zr _;generalize dZ r4.2=r5 at *;refine rG (most:=16) h J (by omega) (by decide) λH9 h=>⟨_,rfl,?_⟩
 have f:=(qj (m:=16) J);have y3:=(qk r5.2 16);generalize bH 16 r5.2=r6 at *;refine vL (most:=65) h f.1 (by omega) (by decide) λu8 h=>⟨_,rfl,?_⟩
 have T:=wk (m:=65) f.1;have l0:=wm r6.2 65;have h4:=cRes_lt (m:=65) f.1 (by decide);generalize bY 65 r6.2=r7 at *;refine⟨λpa pn pc i H'=>∃(j:Nat) (ps:List (Nat×Nat)) (s:RS),i=j/\(j:Int)<=r7.1/\pn=ps.length/\ps.length=j/\aP s.bs/\s.bs.length<=10000000000/\
   oQ r7.1.toNat r7.2=(ps++(oQ (r7.1.toNat-j) s).1,(oQ (r7.1.toNat-j) s).2)/\
   aA H' (crdA rb s::slA 249 2 pa ps.length pc (aF encP ps)::cellsA b1 [U64 r1.1,U64 r2.1,U64 r3.1] 246::cellsA b (dm Cl.z) 159::F),
  λ_ _ _ i _=>(r7.1-i).toNat,⟨0,[],r7.2,rfl,h4.1,rfl,rfl,T,by omega,rfl,?_⟩,?_⟩
 .exact ((h.sl_nil 249 2).o [1,0] 2)
 rintro pa pn pc i H11 ⟨j,ps,s,rfl,hj,rfl,h8,v,hsl,e,h⟩;refine⟨λR=>?_,λR=>?_⟩
 .have d:=V3 R;have hu1:=zu v;have hu2:=zu (lf v);refine nY h v (by omega) λH12 h=>⟨_,rfl,?_⟩
  have l4:=nl s;refine nY h (lf v) (by omega) λl6 h=>⟨_,rfl,?_⟩
  have hl2:=nl (bN s).2;rintro b2 _ rfl rfl;refine h.append1 (ws:=encP ((bN s).1,(bN (bN s).2).1)) sl279 1 rfl rfl rfl (by omega) (by omega) λa' c' H15 h=>⟨_,_,_,rfl,?_⟩
  rw[show i64.wrap ((j:Int)+1)=((j+1:Nat):Int) by grind [aJ]];refine⟨⟨j+1,ps++[((bN s).1,(bN (bN s).2).1)],(bN (bN s).2).2,rfl,by omega,by simp,by simp[h8],lf (lf v),by omega,?_,?_⟩,?_⟩
  .rw [e,show r7.1.toNat-j=(r7.1.toNat-(j+1))+1 by omega,oQ,VX];rfl
  .rw [gx,lL,V6];exact h
  grind
 .have hge:=V2 R;have h2:r7.1.toNat-j=0:=by omega
  rw[h2,oQ,VQ]at e;rw[e]at k;dsimp only at k;refine G4 h λH16 h=>⟨_,rfl,λhe=>?_,λhe=>?_⟩
  .rw [V1 (by grind)]at k;refine h.sta 3 rfl rfl λu h=>⟨_,_,_,_,_,_,_,_,h.rda 3 rfl,k _ h.tl.tl.tl.tl⟩
  rw[Vz (by grind)]at k;unfold IK at k;refine⟨_,_,_,h.rda 2 rfl,?_⟩;have h:=h.tl;refine⟨λi H'=>∃t:Nat,i=t/\t<=3/\(∀q,q<t->f3 r1.1 r2.1 r3.1 q<=9223372036854775807)/\aA H' (slA 249 2 pa ps.length pc (aF encP ps)::cellsA b1 [U64 r1.1,U64 r2.1,U64 r3.1] 246::cellsA b (dm Cl.z) 159::F),λi _=>3-i.toNat,⟨0,rfl,by omega,λ_ h=>by omega,h⟩,?_⟩
  rintro i H18 ⟨t,rfl,ht,hq,h⟩;refine⟨λh7=>?_,λh7=>?_⟩
  .have d:t<3:=by grind
   refine⟨_,idx278 (by omega) (by omega),?_⟩;rw[VL];refine⟨λw=>?_,λw=>?_⟩
   .have w:=V3 w;have:9223372036854775807<r1.1\/9223372036854775807<r2.1\/9223372036854775807<r3.1:=by
     unfold f3 at w
     grind
    rw[V1 this]at k;refine h.sta 2 rfl rfl λu h=>⟨_,_,_,_,_,_,_,_,h.rda 2 rfl,k _ h.tl.tl.tl⟩
   .have w:=V2 w;rw[show i64.wrap ((t:Int)+1)=((t+1:Nat):Int) by grind [aJ]]
    grind
  .have:t=3:=by grind
   subst this;have g0:(r1.1:Int)<=9223372036854775807:=hq 0 (by decide);have g1:(r2.1:Int)<=9223372036854775807:=hq 1 (by decide);have g2:(r3.1:Int)<=9223372036854775807:=hq 2 (by decide);rw[nO]at k;refine⟨by decide,_,h.r 1,by decide,_,h.r 1,by decide,_,h.r 1,?_⟩;dsimp only;rw[aJ (x:=(r1.1:Int)) (by omega) g0,aJ (x:=(r2.1:Int)) (by omega) g1,aJ (x:=(r3.1:Int)) (by omega) g2];refine h.al λb3 _ h=>?_
   refine h.sta 0 rfl (by grind) λH21 h=>?_
   refine h.st 0 rfl rfl λH22 h=>?_
   refine h.st 0 rfl rfl λQ h=>?_
   have h:aA Q (cellsA b3 (dm ⟨r1.1,0,r4.1,r5.1,r2.1,r3.1,Z0⟩) 159::slA 249 2 pa ps.length pc (aF encP ps)::cellsA b1 [U64 r1.1,U64 r2.1,U64 r3.1] 246::cellsA b (dm Cl.z) 159::F):=h;refine zd f.2 h λa' c' y2 h=>⟨_,_,_,rfl,?_⟩
   refine QD (bs:=r6.1) rfl f.2 h (λH h=>h.sl_rd 0 rfl) (by omega) (λC j3 h=>⟨_,_,_,rfl,?_⟩) (λC j3 h=>⟨_,_,_,rfl,?_⟩)
   .rw [V1 C]at k;refine h.al λb4 _ h=>?_
    refine h.sta 0 rfl rfl λh5 h=>⟨λ_=>?_,λhf=>by cases hf⟩
    refine h.sta 5 rfl rfl λu h=>⟨_,_,_,_,_,_,_,_,h.rda 5 rfl,k _ h.tl.tl.tl.tl.tl.tl⟩
   .rw [Vz (λhh=>hh C)]at k
    refine h.al λb4 _ h=>?_
    refine h.sta 0 rfl rfl λh5 h=>⟨λhf=>(by cases hf),λ_=>?_⟩
    refine⟨_,_,h.rda 0 rfl,?_⟩;refine h.st 2 rfl rfl λV h=>?_
    have h:aA V (cellsA b4 [aB (whi (jt r6.1)),.int .u64 (wlo (jt r6.1))] 155::slA 5 1 a' r6.1.length c' (r6.1.map U8)::cellsA b3 (dm ⟨r1.1,jt r6.1,r4.1,r5.1,r2.1,r3.1,Z0⟩) 159::slA 249 2 pa ps.length pc (aF encP ps)::cellsA b1 [U64 r1.1,U64 r2.1,U64 r3.1] 246::cellsA b (dm Cl.z) 159::F):=h;have h:=h.o [2,3,5] 6;refine⟨λi H'=>∃(q:Nat) (g:Nat->Int),i=q/\q<=ps.length/\wfH g/\rN ps none Z0=rN (ps.drop q) (qp ps q) g/\aA H' (cellsA b3 (dm ⟨r1.1,jt r6.1,r4.1,r5.1,r2.1,r3.1,g⟩) 159::slA 249 2 pa ps.length pc (aF encP ps)::cellsA b (dm Cl.z) 159::F),λi _=>ps.length-i.toNat,
     ⟨0,Z0,rfl,VE _,wfH_z,rfl,h⟩,?_⟩
    rintro i l1 ⟨q,g,rfl,l5,w,e2,h⟩;refine⟨λj1=>?_,λj1=>?_⟩
    .have d:q<ps.length:=by grind
     have A:=h.sl_rd 1 rfl;rw[Wv d,rN]at e2;refine⟨⟨by omega,by omega⟩,_,_,A.some wI (by omega) d,_,_,A.els wI d,?_⟩;refine h.al λb6 _ h=>?_
     refine h.sta 0 rfl rfl λZ h=>?_
     have A:=h.sl_rd 2 rfl;have B:((decide (0<(q:Int)))=true)->aM Z (aW pa) (aT pa+(i64.wrap ((q:Int)-1)).toNat*2+0)=some (.int .u64 ((ps.getD (q-1) (0,0)).1:Nat)):=by
      intro y;have y:=V3 y;rw[aJ (x:=(q:Int)-1),show ((q:Int)-1).toNat=q-1 by omega];have Y:q-1<ps.length:=by omega
      have:=(A.els wI Y).1
      grind
     refine⟨λ_=>by decide,_,λ_=>h.r 0,λy=>by have y:=V3 y;rw[aJ (x:=(q:Int)-1)];omega,_,_,λ_=>A.some wI (by omega) d,λ_=>by decide,_,B,λ_=>by decide,_,λ_=>h.r 0,?_⟩
     have W:((decide (0<(q:Int))&&decide (((ps[q].1:Nat):Int)<=(((ps.getD (q-1) (0,0)).1:Nat):Int)))||decide (65<=((ps[q].1:Nat):Int)))=(qo (qp ps q) ps[q].1||decide (65<=ps[q].1)):=by
      unfold qp
      rcases Nat.eq_zero_or_pos q with y|y
      .subst y;rw[V1 rfl]
       grind [qo]
      .rw [nO];rw[Wd];simp only[qo,VY,V4,V5,WQ];omega
     dsimp only;rw[W];have D:(qo (qp ps q) ps[q].1||decide (65<=ps[q].1))=true↔(qo (qp ps q) ps[q].1=true\/65<=ps[q].1):=by grind
     refine⟨λO=>?_,λO=>?_⟩
     .rw [V1 (D.1 O)]at e2;rw[e2]at k;refine h.sta 3 rfl rfl λu h=>⟨_,_,_,_,_,_,_,_,h.rda 3 rfl,k _ h.tl.tl.tl.tl⟩
     have j2:¬(qo (qp ps q) ps[q].1=true\/65<=ps[q].1):=λhh=>by grind
     rw[Vz j2]at e2;refine⟨by decide,_,h.r 0,λ_=>by decide,_,λ_=>h.r 0,λh3=>?_,λh3=>?_⟩
     .have:ps[q].2=0\/9223372036854775807<ps[q].2:=by
       grind
      rw[V1 this]at e2;rw[e2]at k;refine h.sta 3 rfl rfl λu h=>⟨_,_,_,_,_,_,_,_,h.rda 3 rfl,k _ h.tl.tl.tl.tl⟩
     have h9:¬(ps[q].2=0\/9223372036854775807<ps[q].2):=by
      grind
     rw[Vz h9]at e2;have G:ps[q].1<65:=by omega
     refine⟨by decide,_,h.r 0,by decide,_,h.rd 0 rfl _,⟨by omega,by omega⟩,?_⟩;rw[aJ (x:=((ps[q].2:Nat):Int)),VL];have L:cq (dm ⟨r1.1,jt r6.1,r4.1,r5.1,r2.1,r3.1,g⟩) (7+ps[q].1) [aB (ps[q].2:Nat)]=dm ⟨r1.1,jt r6.1,r4.1,r5.1,r2.1,r3.1,fx g ps[q].1 (ps[q].2:Nat)⟩:=by
      refine (tq [aB (ps[q].2:Nat)] [_,_,_,_,_,_,_] (bU .i64 g 65 0) ps[q].1).trans ?_;have e3:cq (bU .i64 g 65 0) ps[q].1 [aB (ps[q].2:Nat)]=bU .i64 (fx g ps[q].1 (ps[q].2:Nat)) 65 0:=by
       show (bU .i64 g 65 0).set ps[q].1 (aB (ps[q].2:Nat))=_;rw[zj _ _ _ _ _ _ G,VB]
      rw[e3]
     refine⟨h.can 1 rfl _ _ (by rw[kh];simp;omega),?_⟩;intro H35 h1;have h:=h.set 1 rfl (7+ps[q].1) [aB (ps[q].2:Nat)];rw[L,<-h1]at h;rw[show i64.wrap ((q:Int)+1)=((q+1:Nat):Int) by grind [aJ]];refine⟨⟨q+1,fx g ps[q].1 (ps[q].2:Nat),rfl,d,?_,?_,h.tl⟩,by grind⟩
     .intro i hi;unfold fx
      split
      .unfold aG;omega
      .exact w i hi
     .rw [e2];congr 1;unfold qp
      grind
    .have h6:q=ps.length:=by grind
     subst h6;rw[List.drop_length,rN]at e2;rw[e2]at k;dsimp only at k;refine⟨_,_,_,_,_,_,_,_,h.rda 0 rfl,?_⟩;have wc:WC ⟨r1.1,jt r6.1,r4.1,r5.1,r2.1,r3.1,g⟩:=⟨by unfold aG;grind,QB _ f.2,U,S,by unfold aG;grind,by unfold aG;grind,w⟩;refine vW wc h λH36 h=>⟨_,rfl,λA=>?_,λA=>?_⟩
     .rw [Vz (by grind)]at k;refine h.sta 2 rfl rfl λu h=>⟨_,_,_,_,_,_,_,_,h.rda 2 rfl,k _ h.tl.tl.tl⟩
     .rw [V1 (by grind)]at k;refine⟨_,_,_,_,_,_,_,_,h.rda 0 rfl,?_⟩;refine h.sta 2 rfl (by rw[kh];grind [kh]) λu h=>⟨_,_,_,_,_,_,_,_,h.rda 2 rfl,k _ h.tl.tl.tl⟩
end
structure Cfg where
 width:Int
 policy:Int
 most:Int
 lag:Int
 rho:Int
 trust:Int
 agents:Int
 cells:Int
 hold:Int
abbrev Cfg.gd(c:Cfg):Gd:=⟨c.width,c.policy,c.most⟩
abbrev qq(c:Cfg):Xb:=[aB c.width,aB c.policy,aB c.most,aB c.lag,aB c.rho,aB c.trust,aB c.agents,aB c.cells,aB c.hold]
structure Str where
 ck:Ck
 hs:HS Pv
 last:Int
structure aV where
 cfg:Cfg
 now:Int
 boots:Int
 sunk:Int
 rows:List En
 ms:MS
 cm:CM
 sts:List (Option Str)
 kept:List Ot
section
variable {α:Type}
def cQ:Nat->List (Option α)->List (Int×Option α)
 | _,[]=>[]
 | i,none::r=>cQ (i+1) r
 | i,some b::r=>((i:Int),some b)::cQ (i+1) r
theorem wJ:∀{l:List (Option α)} {i:Nat} {p:Int×Option α},p∈cQ i l->(i:Int)<=p.1/\p.1<i+l.length
 | [],i,p,h=>by grind [cQ]
 | none::r,i,p,h=>by
  have a:=wJ (l:=r) (i:=i+1) h
  grind
 | some b::r,i,p,h=>by
  simp only[VA]
  rcases V9.1 h with rfl|h
  .grind
  .have a:=wJ (l:=r) (i:=i+1) h;omega
theorem zX{l:List (Option α)}{i k:Nat}(h:k<i):((k:Nat):Int)∉aL (cQ i l):=λhm=>by
 obtain⟨p,a,b⟩:=V8.1 hm;have:=wJ a;omega
theorem tU:∀{l:List (Option α)} {i k:Nat},aK ((i+k:Nat):Int) (cQ i l)=match l[k]? with|some (some b)=>some (some b)|_=>none
 | [],i,k=>by simp[cQ,aK]
 | none::r,i,0=>by
  simp only[List.getElem?_cons_zero];exact eB.2 (zX (l:=r) (by omega))
 | some b::r,i,0=>by simp[cQ,aK]
 | none::r,i,k+1=>by
  have a:=tU (l:=r) (i:=i+1) (k:=k)
  grind [cQ]
 | some b::r,i,k+1=>by
  have a:=tU (l:=r) (i:=i+1) (k:=k);rw[show i+1+k=i+(k+1) by omega]at a;simp only[cQ,List.getElem?_cons_succ,aK]
  grind
theorem IP{β:Type}{k:Int}{l:List (Int×β)}(h:k∉aL l):bD k l=l:=lJ (eB.2 h)
theorem wK{b:α}:∀{l:List (Option α)} {i k:Nat},k<l.length->(cQ i (l.set k (some b))).Perm (mset ((i+k:Nat):Int) (some b) (cQ i l))
 | none::r,i,0,_=>by
  simp only[WV,cQ];unfold mset;rw[IP (zX (by omega))]
  simp_all
 | some c::r,i,0,_=>by
  simp only[WV,cQ];unfold mset;have:bD ((i+0:Nat):Int) (((i:Int),some c)::cQ (i+1) r)=bD ((i+0:Nat):Int) (cQ (i+1) r):=by simp[bD]
  rw[this,IP (zX (by omega))]
  simp_all
 | none::r,i,k+1,h=>by
  have a:=wK (b:=b) (l:=r) (i:=i+1) (k:=k) (by simpa using h);rw[show i+1+k=i+(k+1) by omega]at a;exact a
 | some c::r,i,k+1,h=>by
  have a:=wK (b:=b) (l:=r) (i:=i+1) (k:=k) (by simpa using h);rw[show i+1+k=i+(k+1) by omega]at a;simp only[List.set_cons_succ,cQ];refine (a.cons _).trans ?_;unfold mset;have:bD ((i+(k+1):Nat):Int) (((i:Int),some c)::cQ (i+1) r)=((i:Int),some c)::bD ((i+(k+1):Nat):Int) (cQ (i+1) r):=by
   have d:¬(i:Int)=((i+(k+1):Nat):Int):=by omega
   simp[bD,Wq,d];omega
  rw[this];exact .swap _ _ _
end
abbrev ptV(p:Option Nat):Value:=match p with|some b=>PA b 0|none=>.pointer none
theorem rQ:hD Tryz.prog 312 2 418 ptV none:=lP Tryz.underlying312 (by kernel_rfl)
def strA(Q:aD)(b:Nat)(s:Str):aD:=exS λp:Nat×Nat=>star [cellsA b [PA p.1 0,PA p.2 0,aB s.last] 421,ckA p.1 s.ck,hldA Q p.2 s.hs]
def strsA(Q:aD):List (Option Nat)->List (Option Str)->aD
 | some b::bs,some s::ss=>strA Q b s*strsA Q bs ss
 | _::bs,_::ss=>strsA Q bs ss
 | _,_=>emp
theorem oR{Q:aD}{b:Nat}{s:Str}:∀{bl:List (Option Nat)} {sts:List (Option Str)} {k:Nat},bl[k]?=some none->sts[k]?=some none->
  strA Q b s*strsA Q bl sts=strsA Q (bl.set k (some b)) (sts.set k (some s))
 | [],_,k,h,_=>by simp at h
 | _::_,[],k,_,h=>by simp at h
 | x::bs,y::ss,0,h1,h2=>by
  simp at h1 h2;subst h1;subst h2;rfl
 | none::bs,y::ss,k+1,h1,h2=>oR (bl:=bs) (sts:=ss) (k:=k) (by grind) (by grind)
 | some x::bs,none::ss,k+1,h1,h2=>oR (bl:=bs) (sts:=ss) (k:=k) (by grind) (by grind)
 | some x::bs,some y::ss,k+1,h1,h2=>by
  have a:=oR (Q:=Q) (b:=b) (s:=s) (bl:=bs) (sts:=ss) (k:=k) (by simpa using h1) (by simpa using h2);show strA Q b s*(strA Q x y*strsA Q bs ss)=strA Q x y*strsA Q (bs.set k (some b)) (ss.set k (some s));rw[<-a,<-lH,vg (strA Q b s),lH]
theorem zY{Q:aD}:∀{n:Nat},strsA Q (List.replicate n none) (List.replicate n none)=emp
 | 0=>rfl
 | n+1=>zY (n:=n)
section
variable {F L:List aD}{H:aC}{K KP:KQ}{Q Q':aD}
theorem gM{b:Nat}{s:Str}:aA H (strA Q b s::F)↔∃cb hb,aA H (cellsA b [PA cb 0,PA hb 0,aB s.last] 421::ckA cb s.ck::hldA Q hb s.hs::F):=by
 constructor
 .intro h;obtain⟨⟨cb,hb⟩,h⟩:=cy.1 h;exact⟨cb,hb,aA.open (A:=[_,_,_]) h⟩
 .rintro⟨cb,hb,h⟩;exact cy.2 ⟨(cb,hb),aA.shut [_,_,_] h⟩
theorem strA_sub{b:Nat}{s:Str}(hs:aH Q Q')(h:aA H (strA Q b s::F)):aA H (strA Q' b s::F):=by
 obtain⟨cb,hb,h⟩:=gM.1 h;have h:=h.o [2,0,1] 3;have h:=Iu hs h;exact gM.2 ⟨cb,hb,h.o [1,2,0] 3⟩
theorem tV(hs:aH Q Q'):∀{bl:List (Option Nat)} {sts:List (Option Str)} {F:List aD},aA H (strsA Q bl sts::F)->aA H (strsA Q' bl sts::F)
 | [],_,F,h=>h
 | none::_,[],F,h=>h
 | some _::_,[],F,h=>h
 | none::bs,y::ss,F,h=>tV (bl:=bs) (sts:=ss) hs h
 | some x::bs,none::ss,F,h=>tV (bl:=bs) (sts:=ss) hs h
 | some x::bs,some y::ss,F,h=>by
  have h:aA H (strA Q x y::strsA Q bs ss::F):=eX.1 h;have h:=strA_sub hs h;have h:=h.o [1,0] 2;have h:=tV (bl:=bs) (sts:=ss) hs h;have h:=h.o [1,0] 2;exact eX.2 h
def strmA(Q:aD)(tm:Nat)(sts:List (Option Str)):aD:=exS λbl:List (Option Nat)=>star [mapA aB ptV tm (cQ 0 bl),strsA Q bl sts,pur (bl.map Option.isSome=sts.map Option.isSome)]
abbrev mg(Q:aD)(bl:List (Option Nat))(sts:List (Option Str))(k:Nat):aD:=strsA Q (bl.set k none) (sts.set k none)
structure Hole(bl:List (Option Nat))(sts:List (Option Str))(k b:Nat):Prop where
 lt:k<sts.length
 m:bl.map Option.isSome=sts.map Option.isSome
 at_:bl[k]?=some (some b)
theorem lh{tm:Nat}{sts:List (Option Str)}:aA H (strmA Q tm sts::F)↔∃bl,bl.map Option.isSome=sts.map Option.isSome/\aA H (mapA aB ptV tm (cQ 0 bl)::strsA Q bl sts::F):=by
 constructor
 .intro h;obtain⟨bl,h⟩:=cy.1 h;have h:=aA.open (A:=[_,_,_]) h;have a:=aA.consP (h.o [2,0,1] 3);exact⟨bl,a.1,a.2⟩
 .rintro⟨bl,a,h⟩;exact cy.2 ⟨bl,aA.shut [_,_,_] ((h.pur a).o [1,2,0] 3)⟩
theorem qr{bl:List (Option Nat)}{sts:List (Option Str)}(h:bl.map Option.isSome=sts.map Option.isSome)(k:Nat):(bl[k]?).map Option.isSome=(sts[k]?).map Option.isSome:=by
 rw[<-List.getElem?_map,<-List.getElem?_map,h]
theorem qt{tm k:Nat}{sts:List (Option Str)}{s:Str}(h:aA H (strmA Q tm sts::F))(f:sts[k]?=some (some s)) :
  ∃b bl,Hole bl sts k b/\aA H (mapA aB ptV tm (cQ 0 bl)::strA Q b s::mg Q bl sts k::F):=by
 obtain⟨bl,hm,h⟩:=lh.1 h;have a:k<sts.length:=(List.getElem?_eq_some_iff.1 f).1;have i:bl.length=sts.length:=by have:=congrArg List.length hm;grind
 have c:=qr hm k;rw[f,List.getElem?_eq_getElem (show k<bl.length by omega)]at c;simp only[VT,Option.isSome_some,Option.some.injEq]at c;obtain⟨b,hb⟩:=WY.1 c;have d:bl[k]?=some (some b):=by grind
 refine⟨b,bl,⟨a,hm,d⟩,?_⟩;have e:=oR (Q:=Q) (b:=b) (s:=s) (bl:=bl.set k none) (sts:=sts.set k none) (k:=k) (by grind) (by grind);rw[WL,WL]at e;have e1:bl.set k (some b)=bl:=by grind [List.set_getElem_self]
 have e2:sts.set k (some s)=sts:=by
  grind [List.set_getElem_self]
 rw[e1,e2]at e;rw[<-e]at h;have h:=h.o [1,0] 2;have h:=eX.1 h;exact h.o [2,0,1] 3
theorem rR{tm k b:Nat}{bl:List (Option Nat)}{sts:List (Option Str)}{s:Str}(o:Hole bl sts k b)(h:aA H (mapA aB ptV tm (cQ 0 bl)::strA Q b s::mg Q bl sts k::F)) :
  aA H (strmA Q tm (sts.set k (some s))::F):=by
 have d:bl.length=sts.length:=by have:=congrArg List.length o.m;grind
 have a:=o.lt;have e:=oR (Q:=Q) (b:=b) (s:=s) (bl:=bl.set k none) (sts:=sts.set k none) (k:=k) (by grind) (by grind);rw[WL,WL]at e;have hb:bl[k]'(by omega)=some b:=by have:=o.at_;grind
 have e1:bl.set k (some b)=bl:=by grind [List.set_getElem_self]
 rw[e1]at e;refine lh.2 ⟨bl,?_,?_⟩
 .rw [o.m,List.map_set];have c:=qr o.m k;rw[o.at_,List.getElem?_eq_getElem a]at c;simp only[VT,Option.isSome_some,Option.some.injEq]at c;have:(sts.map Option.isSome)[k]'(by grind)=true:=by grind
  grind [List.set_getElem_self]
 .rw [<-e];have h:=h.o [1,2,0] 3;have h:=eX.2 h;exact h.o [1,0] 2
theorem qu{tm k b:Nat}{bl:List (Option Nat)}{sts:List (Option Str)}(o:Hole bl sts k b)(h:aA H F)(i:Nat)(c:aS i F=mapA aB ptV tm (cQ 0 bl)) :
  cZ Tryz.prog (Instr.lookup 312 (.map (some tm)) (aB (k:Int)) false) H (PA b 0):=by
 have a:=tU (l:=bl) (i:=0) (k:=k);rw[o.at_,VB]at a;exact ((h.mp_look (x:=((k:Nat):Int)) rQ ko2 i c).1 _ a).2
theorem str_nil{tm:Nat}{a:Int}{sts:List (Option Str)}(h:aA H (strmA Q tm sts::F))(f:a<0\/sts[a.toNat]?=some none\/sts[a.toNat]?=none) :
  cZ Tryz.prog (Instr.lookup 312 (.map (some tm)) (aB a) false) H (.pointer none):=by
 obtain⟨bl,hm,h⟩:=lh.1 h;have b:aK a (cQ 0 bl)=none:=by
  rcases (by omega:a<0\/0<=a) with c|c
  .exact eB.2 λhm=>by
    obtain⟨p,d,j⟩:=V8.1 hm;have:=wJ d;omega
  .have e:=tU (l:=bl) (i:=0) (k:=a.toNat);rw[VB,show ((a.toNat:Nat):Int)=a by omega]at e
   grind [qr]
 exact ((h.mp_look (x:=a) rQ ko2 0 rfl).2 b).2
end
structure RightQ(c:Cl):Prop where
 n0:0<=c.n
 cer0:0<=c.cer
 pos0:0<=c.pos
 mm:c.mn<=c.mx
 v:∀i,i<65->0<=c.h i
 sum:sumC c.h=c.n
 z:c.n=0->c.sum=0/\c.mn=0/\c.mx=0
 nz:c.n≠0->c.h (bW c.mn).toNat≠0/\c.h (bW c.mx).toNat≠0/\∀i,i<65->c.h i=0\/(bW c.mn<=i/\(i:Int)<=bW c.mx)
theorem tW{c:Cl}:gD c=true↔RightQ c:=by
 unfold gD
 constructor
 .intro h;simp only[V4,Wa,VN,VG,V5]at h;obtain⟨⟨⟨⟨⟨⟨m,k⟩,f⟩,j⟩,d⟩,e⟩,b⟩:=h;refine⟨by omega,by omega,by omega,by omega,qf.1 d,e,λa=>?_,λa=>?_⟩
  .grind
  .rw [Vz a]at b;simp only[V4,Wa,VN,VG]at b;refine⟨b.1.1,b.1.2,λi hi=>?_⟩
   have:=b.2;unfold inB at this
   grind
 .intro h;simp only[V4,Wa,VN,VG,V5];refine⟨⟨⟨⟨⟨⟨by have:=h.n0;omega,by have:=h.cer0;omega⟩,by have:=h.pos0;omega⟩,by have:=h.mm;omega⟩,qf.2 h.v⟩,h.sum⟩,?_⟩
  by_cases a:c.n=0
  .rw [V1 a];have:=h.z a
   grind
  .rw [Vz a];have:=h.nz a;simp only[V4,Wa,VN,VG];refine⟨⟨this.1,this.2.1⟩,?_⟩;unfold inB
   grind
theorem Ru{c:Cl}{b:Bool}(h:(fS c b).2=0):gD (fS c b).1=true:=by
 unfold fS at h ⊢
 split at h
 .simp at h
 .rename_i e;rw[Vz e];have a:=tW.1 (by simpa using e)
  split at h
  .rename_i hb;rw[V1 hb]
   split at h
   .simp at h
   .rename_i d;rw[Vz d];exact tW.2 ⟨a.n0,by have:=a.cer0;grind,a.pos0,a.mm,a.v,a.sum,a.z,a.nz⟩
  .rename_i hb;rw[Vz hb]
   split at h
   .simp at h
   .rename_i d;rw[Vz d];exact tW.2 ⟨a.n0,a.cer0,by have:=a.pos0;grind,a.mm,a.v,a.sum,a.z,a.nz⟩
theorem Rv{a b:Nat}(h:a<=b):bitLen a<=bitLen b:=by
 unfold bitLen
 split
 .omega
 .rename_i c;rw[nO]
  grind [Nat.log2_self_le,Nat.le_log2,Nat.le_trans]
theorem wL{v w:Int}(h:v<=w):bW v<=bW w:=by
 have e:∀x:Int,bW x=if x<0 then 0 else if x=0 then 1 else 1+((bitLen x.toNat:Nat):Int):=λ_=>rfl
 have hm:=Rv (a:=v.toNat) (b:=w.toNat) (by omega)
 grind
abbrev mh(f:Nat->Int)(n:Nat):Int:=((List.range n).map f).sum
theorem wN(f:Nat->Int)(n:Nat):mh f (n+1)=mh f n+f n:=by
 unfold mh
 grind [List.range_succ]
theorem IQ(f:Nat->Int)(j:Nat):∀n,mh (fx f j (f j+1)) n=mh f n+if j<n then 1 else 0
 | 0=>by simp[mh]
 | n+1=>by
  rw[wN,wN,IQ f j n];unfold fx
  grind
theorem IR{f:Nat->Int}:∀{n:Nat},(∀i,i<n->0<=f i)->mh f n<=0->∀i,i<n->f i=0
 | 0,_,_,i,hi=>by omega
 | n+1,h,hs,i,hi=>by
  rw[wN]at hs;have c:0<=mh f n:=sumR_nn λi hi=>h i (by omega)
  have b:=h n (by omega)
  rcases (by omega:i<n\/i=n) with a|rfl
  .exact IR (λi hi=>h i (by omega)) (by omega) i a
  .omega
where sumR_nn {f:Nat->Int}:∀{n:Nat},(∀i,i<n->0<=f i)->0<=mh f n
 | 0,_=>by simp[mh]
 | n+1,h=>by
  rw[wN];have:=sumR_nn (n:=n) λi hi=>h i (by omega)
  grind
theorem Rw{c:Cl}{v:Int}(wc:WC c)(E:aG v)(h:(jm c v).2=0):gD (jm c v).1=true:=by
 unfold jm at h ⊢
 split at h
 .simp at h
 rename_i k;rw[Vz k];have a:=tW.1 (by simpa using k)
 split at h
 .simp at h
 rename_i j;rw[Vz j]
 split at h
 .simp at h
 rename_i B;rw[Vz B]
 split at h
 .simp at h
 rename_i f;rw[Vz f];have e1:(iS c.n 1).1=c.n+1:=by
  unfold iS at j ⊢
  grind
 have bv:=oN E;have e3:(iw c.h v).1=fx c.h (bW v).toNat (c.h (bW v).toNat+1):=by
  unfold iw at f ⊢
  grind
 have u:∀i,i≠(bW v).toNat->fx c.h (bW v).toNat (c.h (bW v).toNat+1) i=c.h i:=λi hi=>by unfold fx;grind
 have hs:fx c.h (bW v).toNat (c.h (bW v).toNat+1) (bW v).toNat=c.h (bW v).toNat+1:=by unfold fx;grind
 have s:=a.v (bW v).toNat (by omega);have C:=a.n0;refine tW.2 ?_;dsimp only;rw[e1,e3];have H:c.n=0->∀i,i<65->c.h i=0:=λb=>IR (n:=65) a.v (by have:=a.sum;grind [sumC,rowH])
 refine⟨?_,a.cer0,a.pos0,?_,λi hi=>?_,?_,λb=>?_,λ_=>?_⟩
 .grind
 .grind
 .dsimp only
  by_cases e:i=(bW v).toNat
  .grind
  .rw [u i e];exact a.v i hi
 .have A:=IQ c.h (bW v).toNat 65;rw[pO]at A;have G:=a.sum;show mh _ 65=c.n+1
  grind [sumC,rowH]
 .grind
 .dsimp only
  by_cases b:c.n=0
  .grind
  .rw [Vz b,Vz b];have y:=a.nz b;have D:∀i,c.h i≠0->i<65->fx c.h (bW v).toNat (c.h (bW v).toNat+1) i≠0:=λi hi F=>by
    grind
   have m:=oN wc.mn;have t:=oN wc.mx;have m1:∀x,x<=c.mn->bW x<=bW c.mn:=λx d=>wL d
   have m2:∀x,c.mx<=x->bW c.mx<=bW x:=λx d=>wL d
   refine⟨?_,?_,λi hi=>?_⟩
   .grind
   .grind
   .by_cases e:i=(bW v).toNat
    .right;subst e
     constructor
     .grind [wL]
     .split
      .omega
      .have:=wL (v:=v) (w:=c.mx) (by omega);omega
    grind
theorem oS{κ α:Type}[DecidableEq κ]{x:κ}{v:α}{m:List (κ×α)}{p:κ×α}(h:p∈mset x v m):p=(x,v)\/p∈m:=by
 unfold mset at h
 rcases V9.1 h with h|h
 .grind
 .exact .inr (Ws.1 h).1
structure rS(m:CM):Prop where
 nd:(aL m).Nodup
 wc:∀p∈m,WC p.2
 rt:∀p∈m,gD p.2=true
 wn:∀p∈m,aG p.1.win
theorem rS.mset{m:CM}(h:rS m){k:Ky}{c:Cl}(e:WC c)(d:gD c=true)(b:aG k.win):rS (mset k c m):=
 ⟨rk h.nd,λp a=>by
  rcases oS a with rfl|a
  .exact e
  .exact h.wc p a,λp a=>by
  rcases oS a with rfl|a
  .exact d
  .exact h.rt p a,λp a=>by
  rcases oS a with rfl|a
  .exact b
  .exact h.wn p a⟩
theorem zZ{m:CM}{ser:Eq}{b:Bool}:∀{ws:List Int} {p:Ky×Cl},p∈(gE m ser b ws).1->∃w∈ws,p.1=⟨w,ser⟩/\p.2=(fS (ii m ⟨w,ser⟩) b).1/\(fS (ii m ⟨w,ser⟩) b).2=0
 | [],p,h=>by grind [gE]
 | w::r,p,h=>by
  unfold gE at h
  split at h
  .simp at h
  .rename_i e
   rcases V9.1 h with rfl|h
   .grind
   .obtain⟨a,d,c⟩:=zZ h;exact⟨a,VF _ d,c⟩
theorem IS{m:CM}{ser:Eq}{b:Bool}:∀{ws:List Int},(gE m ser b ws).2=0->aL (gE m ser b ws).1=ws.map λw=>(⟨w,ser⟩:Ky)
 | [],_=>rfl
 | w::r,h=>by
  unfold gE at h ⊢
  split at h
  .grind
  .rename_i a;rw[Vz a];have c:=IS (ws:=r) h
   grind
theorem IT:∀{l:CM} {m:CM},rS m->(∀p∈l,WC p.2/\gD p.2=true/\aG p.1.win)->rS (kY l m)
 | [],m,h,_=>h
 | p::r,m,h,hl=>by
  have a:=hl p (VI ..);exact IT (l:=r) (h.mset a.1 a.2.1 a.2.2) λq b=>hl q (VF _ b)
theorem Rz{κ α:Type}[DecidableEq κ]{x:κ}{v:α}{m:List (κ×α)}(a:(aL m).Nodup):(mset x v m).length=m.length+(if (aK x m).isNone then 1 else 0):=by
 cases h:aK x m with
 | none=>grind [Dx]
 | some u=>grind [Dz]
theorem IU:∀{l:CM} {m:CM},(aL m).Nodup->(aL l).Nodup->((kY l m).length:Int)=m.length+((aL l).filter λk=>(aK k m).isNone).length
 | [],m,_,_=>by simp[kY]
 | p::r,m,hn,hl=>by
  have a:p.1∉aL r/\(aL r).Nodup:=W1.1 hl;show ((kY r (mset p.1 p.2 m)).length:Int)=_;rw[IU (l:=r) (rk hn) a.2,Rz hn];have e:(aL r).filter (λk=>(aK k (mset p.1 p.2 m)).isNone)=(aL r).filter (λk=>(aK k m).isNone):=by
   apply List.filter_congr;intro k b;rw[oI,Vz (λe:k=p.1=>a.1 (e▸b))]
  grind
theorem wins_wf{first last:Int}(c:aG first)(b:aG last):∀w∈bZ first last,aG w:=by
 intro w a;unfold bZ at a;obtain⟨i,hi,rfl⟩:=V8.1 a;have:=Wh.1 hi;unfold aG at *;omega
theorem R2(first last:Int)(ser:Eq):((bZ first last).map λw=>(⟨w,ser⟩:Ky)).Nodup:=by
 unfold bZ;rw[Wg];refine List.pairwise_map.2 (List.nodup_range.imp λ{a b} c e=>c ?_)
 grind
theorem eT.good{most:Int}{m:CM}(h:eT most m):rS m:=⟨h.nd,h.wc,h.rt,h.wn⟩
theorem wO{most:Int}{m:CM}{first last:Int}{ser:Eq}(h:eT most m)(n:aG first)(i:aG last):eT most (jp most m first last ser).1:=by
 unfold jp
 split
 .exact h
 split
 .exact h
 split
 .exact h
 rename_i j u d;have d:(gE m ser (decide (first=last)) (bZ first last)).2=0:=by grind
 have c:=IT (l:=(gE m ser (decide (first=last)) (bZ first last)).1) h.good λp t=>by
  obtain⟨w,s,e1,e2,e3⟩:=zZ t;rw[e2,e1];exact⟨Gb (h.cell _) _,Ru e3,wins_wf n i w s⟩
 have f:=IS d;have a:=IU (l:=(gE m ser (decide (first=last)) (bZ first last)).1) (m:=m) h.nd (by rw[f];exact R2 first last ser);rw[f]at a;refine⟨h.m1,h.m2,c.nd,c.wc,c.rt,c.wn,?_⟩;dsimp only;rw[a];have b:qg most m first last ser=true:=by grind
 unfold qg at b;rw[Vz j]at b
 split at b
 .cases b
 .have b:=V3 b;have e:((((bZ first last).map λw=>(⟨w,ser⟩:Ky)).filter λk=>(aK k m).isNone).length:Int)=jo m ser (bZ first last):=by
   unfold jo;rw[List.filter_map,VP];rfl
  grind
theorem R3{most:Int}{m:CM}{k:Ky}{v:Int}(h:eT most m)(e:aG v)(f:aG k.win):eT most (lW m k v).1:=by
 unfold lW
 split
 .exact h
 .rename_i c b
  split
  .exact h
  .rename_i d;have d:(jm c v).2=0:=by grind
   have wc:=h.wc _ (fL b);have a:=h.good.mset (k:=k) (addC_wf wc e) (Rw wc e d) f;refine⟨h.m1,h.m2,a.nd,a.wc,a.rt,a.wn,?_⟩;dsimp only;rw[Dz h.nd b];exact h.len
theorem wQ:∀{l:List Ot} {m:CM} {p:Ky×Cl},p∈kZ m l->p∈m
 | [],m,p,h=>h
 | o::r,m,p,h=>(Ws.1 (wQ (l:=r) h)).1
theorem IV:∀{l:List Ot} {m:CM},(aL m).Nodup->(aL (kZ m l)).Nodup/\(kZ m l).length<=m.length
 | [],m,h=>⟨h,VD _⟩
 | o::r,m,h=>by
  have c:(aL (bD o.1 m)).Nodup:=h.sublist (List.filter_sublist.map _);have a:=IV (l:=r) c;have b:(bD o.1 m).length<=m.length:=List.length_filter_le _ _;exact⟨a.1,W2 a.2 b⟩
theorem R4{most:Int}{m:CM}{a:Int}(h:eT most m):eT most (ni m a):=by
 have c:=IV (l:=iy m a) h.nd;exact⟨h.m1,h.m2,c.1,λp b=>h.wc p (wQ b),λp b=>h.rt p (wQ b),λp b=>h.wn p (wQ b),by have:=c.2;have:=h.len;grind [ni]⟩
def cJ(ck:Ck)(fl:Fl)(now stamp:Int):Gp×Int:=
 if (ckAt ck stamp).2≠0 then (Gp.z,(ckAt ck stamp).2)
 else if (kb [(ckAt ck stamp).1,⟨fl.t,now⟩]).2≠0 then (Gp.z,13) else ((kb [(ckAt ck stamp).1,⟨fl.t,now⟩]).1,0)
abbrev bQ(ms:MS)(a:Int):Fl:=(aK a ms.m).getD Fl.z
structure JR where
 st:Str
 ms:MS
 cm:CM
 reason:Int
 win:Int
 gap:Gp
def dN(c:Cfg)(now a:Int)(st:Str)(ms:MS)(cm:CM)(e:Pv):JR:=
 if e.stamp<st.last then ⟨st,ms,cm,6,0,Gp.z⟩ else
 if (cJ st.ck (bQ ms a) now e.stamp).2≠0\/st.ck.held=true then ⟨{ st with last:=e.stamp },ms,cm,2,0,Gp.z⟩ else
 if (cJ st.ck (bQ ms a) now e.stamp).1.lo<(ms.raise a (cJ st.ck (bQ ms a) now e.stamp).1.lo).1.value then
  ⟨{ st with last:=e.stamp },(ms.raise a (cJ st.ck (bQ ms a) now e.stamp).1.lo).1,cm,1,0,(cJ st.ck (bQ ms a) now e.stamp).1⟩ else
 if (jp c.cells cm (du c.gd (cJ st.ck (bQ ms a) now e.stamp).1).1 (du c.gd (cJ st.ck (bQ ms a) now e.stamp).1).2.1 (dv e.name e.labs)).2≠0 then
  ⟨{ st with last:=e.stamp },(ms.raise a (cJ st.ck (bQ ms a) now e.stamp).1.lo).1,
   (jp c.cells cm (du c.gd (cJ st.ck (bQ ms a) now e.stamp).1).1 (du c.gd (cJ st.ck (bQ ms a) now e.stamp).1).2.1 (dv e.name e.labs)).1,4,0,(cJ st.ck (bQ ms a) now e.stamp).1⟩ else
 if (lU c.gd (cJ st.ck (bQ ms a) now e.stamp).1).2≠0 then
  ⟨{ st with last:=e.stamp },(ms.raise a (cJ st.ck (bQ ms a) now e.stamp).1.lo).1,
   (jp c.cells cm (du c.gd (cJ st.ck (bQ ms a) now e.stamp).1).1 (du c.gd (cJ st.ck (bQ ms a) now e.stamp).1).2.1 (dv e.name e.labs)).1,3,0,(cJ st.ck (bQ ms a) now e.stamp).1⟩ else
 ⟨{ st with last:=e.stamp },(ms.raise a (cJ st.ck (bQ ms a) now e.stamp).1.lo).1,
  (lW (jp c.cells cm (du c.gd (cJ st.ck (bQ ms a) now e.stamp).1).1 (du c.gd (cJ st.ck (bQ ms a) now e.stamp).1).2.1 (dv e.name e.labs)).1 ⟨(lU c.gd (cJ st.ck (bQ ms a) now e.stamp).1).1,dv e.name e.labs⟩ e.value).1,
  if (lW (jp c.cells cm (du c.gd (cJ st.ck (bQ ms a) now e.stamp).1).1 (du c.gd (cJ st.ck (bQ ms a) now e.stamp).1).2.1 (dv e.name e.labs)).1 ⟨(lU c.gd (cJ st.ck (bQ ms a) now e.stamp).1).1,dv e.name e.labs⟩ e.value).2≠0 then 4 else 0,
  if (lW (jp c.cells cm (du c.gd (cJ st.ck (bQ ms a) now e.stamp).1).1 (du c.gd (cJ st.ck (bQ ms a) now e.stamp).1).2.1 (dv e.name e.labs)).1 ⟨(lU c.gd (cJ st.ck (bQ ms a) now e.stamp).1).1,dv e.name e.labs⟩ e.value).2≠0 then 0 else (lU c.gd (cJ st.ck (bQ ms a) now e.stamp).1).1,
  (cJ st.ck (bQ ms a) now e.stamp).1⟩
section
variable {F L:List aD}{H:aC}{K KP:KQ}{Q Q':aD}
theorem IW{sb c mb mm cb hb:Nat}{cs:Xb}{ms:MS}{ck:Ck}{now a stamp last:Int}(i:ck.smps.length<=8)(n:aI cs 9=some (aB now))(f:aI cs 16=some (PA mb 0))
  (h:aA H (cellsA sb cs 314::Ma.markC mb mm ms::Ma.mapF mm ms.m::cellsA c [PA cb 0,PA hb 0,aB last] 421::ckA cb ck::F))
  (k:∀H',aA H' (cellsA sb cs 314::Ma.markC mb mm ms::Ma.mapF mm ms.m::cellsA c [PA cb 0,PA hb 0,aB last] 421::ckA cb ck::F)->
   K (.tuple #[jl (cJ ck (bQ ms a) now stamp).1,aB (cJ ck (bQ ms a) now stamp).2]) H') :
  CF 363 #[PA sb 0,aB a,PA c 0,aB stamp] H K:=by
 refine cN 363 298920156 [[(11,sI),(14,sA)]] ?_;refine h.al λb _ h=>⟨_,h.r 4,?_⟩
 have h:=h.o [5,0,1,2,3,4] 6;refine PB i h λx h=>⟨_,_,_,rfl,?_⟩
 unfold cJ at k;generalize ckAt ck stamp=C at *;refine h.al λb1 _ h=>?_
 refine h.st 0 rfl rfl ?_;intro H2 h;refine⟨λe=>?_,λe=>?_⟩
 .rw [V1 (by grind)]at k;refine h.st 2 rfl rfl ?_;intro j h;refine⟨_,_,h.q 2,?_⟩;exact k _ (h.o [3,4,5,6,1] 7)
 rw[Vz (by grind)]at k;refine⟨_,(h.r 3).trans f,?_⟩;have h:=h.o [4,5,0,1,2,3,6] 7;refine Ma.Of_spec (a:=a) h λj h=>⟨_,_,_,_,_,rfl,?_⟩
 refine h.al λb2 _ h=>?_
 refine h.st 0 rfl rfl ?_;intro y h;intro w v;generalize hM:kb [C.1,⟨(bQ ms a).t,now⟩]=M at *;have d:∀pb H',aA H' (cellsA pb [aB M.1.lo,aB M.1.hi] 140::cellsA b [aB 0,aB 0] 140::cellsA sb cs 314::Ma.markC mb mm ms::Ma.mapF mm ms.m::cellsA c [PA cb 0,PA hb 0,aB last] 421::ckA cb ck::F)->w M.2 pb 0 H':=by
  intro pb H' h;refine v _ _ _ _ ?_;refine⟨λe=>?_,λe=>?_⟩
  .rw [V1 (by grind)]at k;refine h.st 1 rfl rfl ?_;intro j h;exact⟨_,_,h.q 1,k _ h.tl.tl⟩
  .rw [Vz (by grind)]at k;refine⟨_,_,h.q 0,?_⟩;refine h.st 1 rfl rfl ?_;intro j h;exact⟨_,_,h.q 1,k _ h.tl.tl⟩
 refine⟨_,_,h.q 3,_,h.r 0,_,(h.r 6).trans n,?_,?_⟩
 .refine h.al λb3 _ h=>⟨?_,?_⟩
  .refine tH (gs:=[C.1,⟨(bQ ms a).t,now⟩]) h (λH h=>h.ce_rd 0 rfl) (by simp) λu h=>⟨_,_,_,rfl,?_⟩
   rw[hM];refine h.al λb4 _ h=>?_
   refine h.st 0 rfl rfl ?_;intro s h;exact d _ _ (h.o [0,7,8,3,4,9,6] 10)
  .refine h.al λb5 _ h=>?_
   refine tH (gs:=[C.1,⟨(bQ ms a).t,now⟩]) h (λH h=>h.ce_rd 1 rfl) (by simp) λu h=>⟨_,_,_,rfl,?_⟩
   rw[hM];refine h.st 0 rfl rfl ?_;intro s h;exact d _ _ (h.o [0,7,8,3,4,9,6] 10)
 .refine h.al λb6 _ h=>⟨(h.r 7).trans n,h.r 1,h.q 4,?_⟩
  refine h.al λb7 _ h=>?_
  refine tH (gs:=[C.1,⟨(bQ ms a).t,now⟩]) h (λH h=>h.ce_rd 0 rfl) (by simp) λu h=>⟨_,_,_,rfl,?_⟩
  rw[hM];refine h.st 1 rfl rfl ?_;intro s h;exact d _ _ (h.o [1,7,8,3,4,9,6] 10)
theorem R5(g:Gd)(t:Int):aG (eZ g t):=by
 unfold eZ
 split
 .split <;> exact i64in _
 .unfold aG;decide
theorem wf_meets(g:Gd)(x:Gp):aG (du g x).1/\aG (du g x).2.1:=by
 grind [du,R5,aG]
theorem R6{c:Cfg}{sb j mm cb:Nat}{p_mb p_hb p_hm w:Nat}{cs:Xb}{ms:MS}{cm:CM}{st:Str}{now a:Int}{e:Ev}(E:st.ck.smps.length<=8)(ok:eT c.cells cm)(R:aG e.value)
  (O:aI cs 9=some (aB now)) (v:(cs.drop 12).take 3=[aB c.width,aB c.policy,aB c.most]) (u:aI cs 16=some (PA p_mb 0)) (A:aI cs 17=some (PA p_hb 0)) (S:∀H,aA H F->aN H e.la (aF aZ e.labs))
  (h:aA H (cellsA sb cs 314::Ma.markC p_mb mm ms::Ma.mapF mm ms.m::shC p_hb p_hm c.cells::cB p_hm cm::cellsA j [PA cb 0,PA w 0,aB st.last] 421::ckA cb st.ck::F))
  (k:∀H',aA H' (cellsA sb cs 314::Ma.markC p_mb mm (dN c now a st ms cm e.p).ms::Ma.mapF mm (dN c now a st ms cm e.p).ms.m::shC p_hb p_hm c.cells::cB p_hm (dN c now a st ms cm e.p).cm::cellsA j [PA cb 0,PA w 0,aB (dN c now a st ms cm e.p).st.last] 421::ckA cb st.ck::F)->
   K (.tuple #[.agg #[aB (dN c now a st ms cm e.p).reason,aB (dN c now a st ms cm e.p).win],jl (dN c now a st ms cm e.p).gap]) H') :
  CF 362 #[PA sb 0,aB a,PA j 0,aggV e] H K:=by
 refine cM 362 8182367178792412 ?_;unfold dN at k;have i:e.p.stamp=e.stamp:=rfl;have B:e.p.value=e.value:=rfl;have s:e.p.name=e.name:=rfl;have n:e.p.labs=e.labs:=rfl;rw[i,B,s,n]at k;refine h.al λb _ h=>?_
 refine h.al λb1 _ h=>?_
 refine h.al λb2 _ h=>?_
 refine⟨_,h.r 2,_,h.r 8,λd=>?_,λd=>?_⟩
 .have d:=V3 d;simp only[V1 d]at k;refine h.st 1 rfl rfl ?_;intro H2 h;refine h.st 0 rfl rfl ?_;intro V h;exact⟨_,_,h.q 1,_,_,h.q 0,k _ h.tl.tl.tl⟩
 have d:=V2 d;simp only[Vz d]at k;refine⟨_,h.r 2,?_⟩;refine h.st 8 rfl rfl ?_;intro H2 h;refine⟨_,h.r 2,?_⟩;have h:=h.o [3,4,5,8,9,0,1,2,6,7] 10;refine IW (a:=a) (stamp:=e.stamp) E O u h λV h=>⟨_,_,_,rfl,?_⟩
 generalize cJ st.ck (bQ ms a) now e.stamp=T at *;refine h.al λb3 _ h=>?_
 refine h.st 0 rfl rfl ?_;intro Z h;refine⟨_,h.rd 4 rfl 0,_,tI (h.o [5] 6),λd=>?_,λd=>?_⟩
 .have d:T.2≠0\/st.ck.held=true:=by
   grind
  simp only[V1 d]at k;refine h.st 7 rfl rfl ?_;intro U h;refine h.st 6 rfl rfl ?_;intro J h;exact⟨_,_,h.q 7,_,_,h.q 6,k _ (h.o [1,2,3,9,10,4,5] 11)⟩
 have d:¬(T.2≠0\/st.ck.held=true):=by
  grind
 simp only[Vz d]at k;refine⟨_,(h.r 1).trans u,_,h.r 0,?_⟩;have h:=h.o [2,3,0,1,4,5,6,7,8,9,10] 11;refine Ma.Raise_spec (a:=a) (t:=T.1.lo) h λU h=>⟨_,rfl,?_⟩
 generalize (ms.raise a T.1.lo).1=M at *;refine⟨_,h.r 2,_,(h.r 3).trans u,_,Ma.Value_spec h 0 rfl,λd=>?_,λd=>?_⟩
 .have d:=V3 d;simp only[V1 d]at k;refine⟨_,_,h.q 2,?_⟩;refine h.st 7 rfl rfl ?_;intro J h;refine⟨h.q 2,?_⟩;refine h.st 6 rfl rfl ?_;intro Q h;exact⟨_,_,h.q 7,_,_,h.q 6,k _ (h.o [3,0,1,9,10,4,5] 11)⟩
 have d:=V2 d;simp only[Vz d]at k;refine⟨_,_,_,_,h.q 8,?_⟩;refine zo h (λH h=>S H (h.o [] 11)) λJ h=>⟨_,rfl,?_⟩
 generalize dv e.name e.labs=ser at *;refine⟨_,_,_,h.rds 3 rfl v,_,_,h.q 2,?_⟩;refine ER (g:=c.gd) (x:=T.1) h λQ h=>⟨_,_,_,rfl,?_⟩
 have f:=wf_meets c.gd T.1;generalize du c.gd T.1=W at *;refine⟨_,(h.r 3).trans A,?_⟩;have h:=h.o [9,10,0,1,2,3,4,5,6,7,8] 11;refine Qb ok f.1 f.2 h λY h=>⟨_,rfl,?_⟩
 have G:eT c.cells (jp c.cells cm W.1 W.2.1 ser).1:=wO ok f.1 f.2;generalize jp c.cells cm W.1 W.2.1 ser=N at *;refine⟨λd=>?_,λd=>?_⟩
 .have d:N.2≠0:=by grind
  simp only[V1 d]at k;refine⟨_,_,h.q 4,?_⟩;refine h.st 9 rfl rfl ?_;intro L h;refine⟨h.q 4,?_⟩;refine h.st 8 rfl rfl ?_;intro y h;exact⟨_,_,h.q 9,_,_,h.q 8,k _ (h.o [5,2,3,0,1,6,7] 11)⟩
 have d:¬N.2≠0:=by grind
 simp only[Vz d]at k;refine⟨_,_,_,h.rds 5 rfl v,_,_,h.q 4,?_⟩;refine P6 (g:=c.gd) (x:=T.1) h λL h=>⟨_,_,rfl,?_⟩
 generalize lU c.gd T.1=P at *;refine⟨λd=>?_,λd=>?_⟩
 .have d:P.2≠0:=by grind
  simp only[V1 d]at k;refine⟨_,_,h.q 4,?_⟩;refine h.st 9 rfl rfl ?_;intro y h;refine⟨h.q 4,?_⟩;refine h.st 8 rfl rfl ?_;intro D h;exact⟨_,_,h.q 9,_,_,h.q 8,k _ (h.o [5,2,3,0,1,6,7] 11)⟩
 have d:¬P.2≠0:=by grind
 simp only[Vz d]at k;refine⟨_,(h.r 5).trans A,_,h.r 10,?_⟩;refine PZ G (key:=⟨P.1,ser⟩) R h λy h=>⟨_,rfl,?_⟩
 generalize lW N.1 ⟨P.1,ser⟩ e.value=C at *;refine⟨λd=>?_,λd=>?_⟩
 .have d:C.2≠0:=by grind
  simp only[V1 d]at k;refine⟨_,_,h.q 4,?_⟩;refine h.st 9 rfl rfl ?_;intro D h;refine⟨h.q 4,?_⟩;refine h.st 8 rfl rfl ?_;intro I h;exact⟨_,_,h.q 9,_,_,h.q 8,k _ (h.o [5,2,3,0,1,6,7] 11)⟩
 .have d:¬C.2≠0:=by grind
  simp only[Vz d]at k;refine⟨_,_,h.q 4,?_⟩;refine h.st 9 rfl rfl ?_;intro D h;refine⟨h.q 4,?_⟩;refine h.st 8 rfl rfl ?_;intro I h;exact⟨_,_,h.q 9,_,_,h.q 8,k _ (h.o [5,2,3,0,1,6,7] 11)⟩
end
structure Eff where
 kind:Int:=0
 agent:Int:=0
 epoch:Int:=0
 boot:Int:=0
 next:Int:=0
 number:Int:=0
 ida:Int:=0
 ide:Int:=0
 seq:Int:=0
 reason:Int:=0
 win:Int:=0
 gap:Gp:=Gp.z
 out:Ot:=(⟨0,⟨#[]⟩⟩,Cl.z)
abbrev dw(e:Eff):Xb:=[aB e.kind,aB e.agent,aB e.epoch,aB e.boot,aB e.next,aB e.number,aB e.ida,aB e.ide,aB e.seq,aB e.reason,aB e.win,aB e.gap.lo,aB e.gap.hi,
 aB e.out.1.win,.string e.out.1.ser,aB e.out.2.n,aB (whi e.out.2.sum),.int .u64 (wlo e.out.2.sum),aB e.out.2.mn,aB e.out.2.mx,aB e.out.2.cer,aB e.out.2.pos]++bU .i64 e.out.2.h 65 0
theorem IY(e:Eff):(dw e).length=87:=rfl
theorem tX(e:Eff):cK (dw e)=true:=rfl
structure SAd where
 rb:Nat
 rm:Nat
 mb:Nat
 mm:Nat
 hb:Nat
 hm:Nat
 tm:Nat
 ka:Xa
 kc:Nat
abbrev dI(s:aV)(p:SAd):Xb:=[aB s.cfg.width,aB s.cfg.policy,aB s.cfg.most,aB s.cfg.lag,aB s.cfg.rho,aB s.cfg.trust,aB s.cfg.agents,aB s.cfg.cells,aB s.cfg.hold,aB s.now,aB s.boots,aB s.sunk,
 aB s.cfg.width,aB s.cfg.policy,aB s.cfg.most,PA p.rb 0,PA p.mb 0,PA p.hb 0,.map (some p.tm),.slice p.ka s.kept.length p.kc]
structure qv(c:Cfg):Prop where
 gd:c.gd.ok
 lag:1<=c.lag/\c.lag<=1099511627776
 rate:iT c.rho/\0<=c.trust/\c.trust<=100
 ag:1<=c.agents/\c.agents<=64
 cl:1<=c.cells/\c.cells<=1024
 hd:1<=c.hold/\c.hold<=256
structure qw(c:Cfg)(s:Str):Prop where
 ck:CkOk s.ck
 rho:s.ck.rho=c.rho
 least:s.ck.least=c.trust
 hs:s.hs.Ok
 most:s.hs.most=c.hold
 next:s.hs.next<=1099511627776
 rows:∀p∈s.hs.rows,p.1<1099511627776/\jv p.2=true/\aG p.2.value
 last:-1<=s.last/\s.last<=4611686018427387903
structure dh(s:aV):Prop where
 cfg:qv s.cfg
 now:isT s.now
 boots:0<=s.boots/\s.boots<=1099511627776
 sunk:0<=s.sunk
 rows:gL s.rows
 ms:MOk s.ms
 lag:s.ms.lag=s.cfg.lag
 sh:eT s.cfg.cells s.cm
 len:s.sts.length=64
 sts:∀st,some st∈s.sts->qw s.cfg st
 reg:∀k:Nat,(∃st:Str,s.sts[k]?=some (some st))↔∃e:En,s.rows[k]?=some e/\0<e.epoch
 kept:∀o∈s.kept,WC o.2
theorem sl39:SlT Tryz.prog 292 428 87 704:=eG (by kernel_rfl)
abbrev stL(Q:aD)(sb:Nat)(s:aV)(p:SAd):List aD:=[cellsA sb (dI s p) 314,Ro.rollC p.rb p.rm s.cfg.agents,Ro.mapE p.rm s.rows,Ma.markC p.mb p.mm s.ms,Ma.mapF p.mm s.ms.m,shC p.hb p.hm s.cfg.cells,cB p.hm s.cm,strmA Q p.tm s.sts,slA 288 74 p.ka s.kept.length p.kc (aF cW s.kept)]
def stA(Q:aD)(sb:Nat)(s:aV):aD:=exS λp:SAd=>star (stL Q sb s p)
section
variable {F L:List aD}{H:aC}{K KP:KQ}{Q Q':aD}
theorem dx{sb:Nat}{s:aV}:aA H (stA Q sb s::F)↔∃p:SAd,aA H (cellsA sb (dI s p) 314::Ro.rollC p.rb p.rm s.cfg.agents::Ro.mapE p.rm s.rows::Ma.markC p.mb p.mm s.ms::Ma.mapF p.mm s.ms.m::shC p.hb p.hm s.cfg.cells::cB p.hm s.cm::strmA Q p.tm s.sts::slA 288 74 p.ka s.kept.length p.kc (aF cW s.kept)::F):=by
 constructor
 .intro h;obtain⟨p,h⟩:=cy.1 h;exact⟨p,aA.open h⟩
 .rintro⟨p,h⟩;exact cy.2 ⟨p,aA.shut (stL Q sb s p) h⟩
theorem R7{tm:Nat}{sts:List (Option Str)}(hs:aH Q Q')(h:aA H (strmA Q tm sts::F)):aA H (strmA Q' tm sts::F):=by
 obtain⟨bl,a,h⟩:=lh.1 h;have h:=h.o [1,0] 2;have h:=tV hs h;exact lh.2 ⟨bl,a,h.o [1,0] 2⟩
theorem Aa{sb:Nat}{s:aV}(hs:aH Q Q')(h:aA H (stA Q sb s::F)):aA H (stA Q' sb s::F):=by
 obtain⟨p,h⟩:=dx.1 h;have h:=h.o [7,0,1,2,3,4,5,6,8] 9;have h:=R7 hs h;exact dx.2 ⟨p,h.o [1,2,3,4,5,6,7,0,8] 9⟩
theorem R8{a:Xa}{c:Nat}{evs:List Ev}(h:aA H (Q::F))(T:∀H,aA H (Q::F)->aN H a (aF bT evs))(R:∀e∈evs,gJ Q e)(O:evs.length<=1000000)(C:∀e∈evs,e.labs.length<=1000000)
  (k:∀Q' E J b H',aH Q Q'->b.map Ev.p=evs.map Ev.p->(∀e∈b,gJ Q' e)->aA H' (Q'::slA 258 4 E b.length J (aF bT b)::F)->K (.slice E b.length J) H') :
  CF 361 #[.slice a evs.length c] H K:=by
 refine Ow ?_;refine QW h T O λa1 c1 Z h=>⟨_,_,_,rfl,?_⟩
 refine⟨λi H'=>∃(j:Nat) (Q':aD) (b:List Ev),i=j/\j<=evs.length/\aH Q Q'/\b.map Ev.p=evs.map Ev.p/\(∀q (A:q<b.length),q<j->gJ Q' b[q])/\(∀q (A:q<b.length) (B:q<evs.length),j<=q->b[q]=evs[q])/\
  aA H' (Q'::slA 258 4 a1 evs.length c1 (aF bT b)::F),λi _=>evs.length-i.toNat,
  ⟨0,Q,evs,rfl,by omega,aH.refl Q,rfl,λq _ h=>by omega,λ_ _ _ _=>rfl,h.o [1,0] 2⟩,?_⟩
 rintro i H2 ⟨j,Q',b,rfl,Y,f,m,s,t,h⟩;have y:b.length=evs.length:=by have:=congrArg List.length m;grind
 refine⟨λN=>?_,λN=>?_⟩
 .have n:j<evs.length:=by grind
  have d:j<b.length:=by omega
  have I:=h.sl_rd 1 rfl;have w:=t j d n (VD _);refine⟨by omega,_,_,I.some dF (by omega) d,_,_,_,(by
   have:=I.el dF d 3 (v:=.slice b[j].la b[j].labs.length b[j].lc) rfl;rw[show aT a1+((j:Nat):Int).toNat*4+2+1=aT a1+j*4+3 by simp];exact this),?_⟩
  rw[w];refine zL h (λH h=>((R _ (V7 n)).sub f).at h 0 rfl) (C _ (V7 n)) λQ2 a2 c2 H3 u D h=>⟨_,_,_,rfl,by omega,?_⟩
  obtain⟨P,U,G⟩:=h.sl_set 1 rfl (j*4+3) [.slice a2 evs[j].labs.length c2] (by rw[dT dF];simp;omega) (by simp);refine⟨_,_,P,by rw[show aT a1+((j:Nat):Int).toNat*4+2+1=aT a1+(j*4+3) by grind];exact U,?_⟩;intro H4 M;rw[aJ (x:=(j:Int)+1)];have e:=y7 dF (⟨evs[j].stamp,evs[j].value,evs[j].name,evs[j].labs,a2,c2⟩:Ev) [.slice a2 evs[j].labs.length c2] 3 (xs:=b) (k:=j) d (by simp) (by rw[w];rfl);rw[e]at G;refine⟨⟨j+1,Q2,b.set j ⟨evs[j].stamp,evs[j].value,evs[j].name,evs[j].labs,a2,c2⟩,by omega,n,f.trans u,?_,λq A S=>?_,λq A B L=>?_,?_⟩,by grind⟩
  .rw [List.map_set,m];apply WJ
   .simp
   grind [Ev.p]
  .rw [List.getElem_set]
   split
   .exact D
   .exact (s q (by grind) (by omega)).sub u
  .grind
  .rw [M,show aT a1+((j:Nat):Int).toNat*4+2+1=aT a1+(j*4+3) by grind];exact G
 .have V:evs.length<=j:=by grind
  rw[<-y]at h ⊢;exact k Q' a1 c1 b _ f m (λe W=>by
   obtain⟨q,A,rfl⟩:=Wu W;exact s q A (by omega)) h
end
def Pv.z:Pv:=⟨0,0,⟨#[]⟩,[]⟩
structure JS where
 st:Str
 ms:MS
 cm:CM
def tY(c:Cfg)(now a ep seq:Int)(x:JS)(e:Pv):JS×Eff:=
 (⟨(dN c now a x.st x.ms x.cm e).st,(dN c now a x.st x.ms x.cm e).ms,(dN c now a x.st x.ms x.cm e).cm⟩,
  { kind:=3,ida:=a,ide:=ep,seq:=seq,reason:=(dN c now a x.st x.ms x.cm e).reason,win:=(dN c now a x.st x.ms x.cm e).win,gap:=(dN c now a x.st x.ms x.cm e).gap })
def dE(c:Cfg)(now a ep first:Int)(evs:List Pv)(x:JS):Nat->JS×List Eff
 | 0=>(x,[])
 | n+1=>((tY c now a ep (first+n) (dE c now a ep first evs x n).1 (evs.getD n Pv.z)).1,(dE c now a ep first evs x n).2++[(tY c now a ep (first+n) (dE c now a ep first evs x n).1 (evs.getD n Pv.z)).2])
def oT(s:aV)(r:Rp)(st:Str):JS×List Eff:=dE s.cfg r.nw r.ag r.ep st.hs.next (st.hs.offer r.nx r.evs).2.1 ⟨{ st with hs:=(st.hs.offer r.nx r.evs).1 },s.ms,s.cm⟩ (st.hs.offer r.nx r.evs).2.1.length
def jx(s:aV)(r:Rp):aV×List Eff:=match s.sts[r.ag.toNat]? with
 | some (some st)=>({ s with now:=r.nw,ms:=(oT s r st).1.ms,cm:=(oT s r st).1.cm,sts:=s.sts.set r.ag.toNat (some (oT s r st).1.st) },
   (oT s r st).2++[{ kind:=2,agent:=r.ag,epoch:=r.ep,next:=(st.hs.offer r.nx r.evs).1.next }])
 | _=>(s,[])
theorem IZ(c:Cfg)(now a:Int)(st:Str)(ms:MS)(cm:CM)(e:Pv):(dN c now a st ms cm e).st.ck=st.ck/\(dN c now a st ms cm e).st.hs=st.hs/\
  ((dN c now a st ms cm e).st.last=st.last\/(dN c now a st ms cm e).st.last=e.stamp):=by
 unfold dN
 grind
theorem wf_win(g:Gd)(t:Int):aG (eZ g t):=by
 unfold eZ
 split
 .split <;> exact i64in _
 .unfold aG;decide
theorem Ja(g:Gd)(x:Gp):aG (du g x).1/\aG (du g x).2.1:=by
 grind [du,wf_win,aG]
theorem wf_pick(g:Gd)(x:Gp):aG (lU g x).1:=by
 have h:=Ja g x;have z:aG 0:=by unfold aG;decide
 unfold lU
 split
 .exact z
 split
 .exact z
 split
 .exact h.1
 split
 .exact h.2
 split
 .exact wf_win _ _
 split
 .exact z
 .exact h.1
theorem R9{c:Cfg}{now a:Int}{st:Str}{ms:MS}{cm:CM}{e:Pv}(h:eT c.cells cm)(d:aG e.value):eT c.cells (dN c now a st ms cm e).cm:=by
 have b:=Ja c.gd (cJ st.ck (bQ ms a) now e.stamp).1;have f:=wf_pick c.gd (cJ st.ck (bQ ms a) now e.stamp).1;unfold dN
 split
 .exact h
 split
 .exact h
 split
 .exact h
 split
 .exact wO h b.1 b.2
 split
 .exact wO h b.1 b.2
 .exact R3 (wO h b.1 b.2) d f
theorem Ab{c:Cfg}{now a ep first:Int}{evs:List Pv}{x:JS}(h:eT c.cells x.cm)(f:∀e∈evs,aG e.value):∀n,n<=evs.length->
  eT c.cells (dE c now a ep first evs x n).1.cm/\(dE c now a ep first evs x n).1.st.ck=x.st.ck/\(dE c now a ep first evs x n).1.st.hs=x.st.hs/\(dE c now a ep first evs x n).2.length=n
 | 0,_=>⟨h,rfl,rfl,rfl⟩
 | n+1,hn=>by
  have b:=Ab (now:=now) (a:=a) (ep:=ep) (first:=first) h f n (by omega);have d:=IZ c now a (dE c now a ep first evs x n).1.st (dE c now a ep first evs x n).1.ms (dE c now a ep first evs x n).1.cm (evs.getD n Pv.z);refine⟨R9 b.1 ?_,d.1.trans b.2.1,d.2.1.trans b.2.2.1,?_⟩
  .rw [wh _ (by omega)];exact f _ (V7 _)
  .show (_++[_]).length=_;rw[V6,b.2.2.2];rfl
structure oU(Q:aD)(F:List aD)(r:Rp)(a:Xa)(evs:List Ev):Prop where
 eq:r.evs=evs.map Ev.p
 rd:∀H,aA H F->aN H a (aF bT evs)
 labs:∀e∈evs,gJ Q e
 len:evs.length<=1000000
 vals:∀e∈r.evs,aG e.value
section
variable {F L:List aD}{H:aC}{K KP:KQ}{Q Q':aD}
theorem evOk_len{e:Pv}(h:jv e=true):e.labs.length<=8:=by
 unfold jv at h;rw[V4]at h
 conv=>whnf
 exact (lX h.2).len
theorem RA{sb:Nat}{s:aV}{r:Rp}{a:Xa}{c:Nat}{evs:List Ev}{st:Str}(ok:dh s)(l3:0<=r.ag)(C:s.sts[r.ag.toNat]?=some (some st))(E:oU Q F r a evs)(h5:∀e∈r.evs,jv e=true)
  (l0:evs.length<=64) (h:aA H (Q::stA Q sb s::F))
  (k:∀Q' a' c' H',aH Q Q'->aA H' (Q'::slA 428 87 a' (jx s r).2.length c' (aF dw (jx s r).2)::stA Q' sb (jx s r).1::F)->K (.slice a' (jx s r).2.length c') H') :
  CF 257 #[PA sb 0,.agg ⟨dH r a c⟩] H K:=by
 have Y:((r.ag.toNat:Nat):Int)=r.ag:=by omega
 have f:=ok.sts st (VW C);have Z:r.evs.length=evs.length:=by rw[E.eq,VP]
 unfold jx at k;rw[C]at k;dsimp only at k;refine OE ?_;refine h.al λb _ h=>⟨_,h.r 0,?_⟩
 have h:=h.o [2,1,0] 3;obtain⟨p,h⟩:=dx.1 h;refine h.st 0 rfl rfl ?_;intro H1 h;have h:=h.o [7,0,1,2,3,4,5,6,8,9,10] 11;obtain⟨L,bl,B,h⟩:=qt h C;have h:=h.o [1,0,2,3,4,5,6,7,8,9,10,11,12] 13;obtain⟨cb,hb,h⟩:=gM.1 h;have A:=qu B h 3 rfl;rw[Y]at A;refine⟨_,h.r 5,_,h.r 14,_,A,dX ⟨_,h.r 0,_,tT (h.o [2] 3),dX ⟨_,h.r 0,_,h.r 14,_,_,_,h.r 14,?_⟩⟩⟩;have h:=h.o [13,0,1,2,3,4,5,6,7,8,9,10,11,12,14] 15;rw[Z];refine R8 h (λH h=>E.rd H (h.o [] 15)) E.labs (by omega) (λe he=>?_) λI a1 c1 u H2 D U h4 h=>⟨_,_,_,rfl,h.r 15,h.r 2,?_⟩
 .have:=evOk_len (h5 e.p (by rw[E.eq];grind));show e.p.labs.length<=1000000;omega
 have j3:u.length=evs.length:=by have:=congrArg List.length U;grind
 have h:=h.o [4,0,1,2,3,5,6,7,8,9,10,11,12,13,14,15] 16;have h:=Iu D h;have S:u.map Ev.p=r.evs:=by rw[U,E.eq]
 refine Rf (items:=u) h f.hs (by have:=f.next;omega) (λH h=>h.sl_rd 1 rfl) h4 (by omega) λa2 c2 ready H3 w M h=>⟨_,_,_,_,rfl,?_⟩
 rw[S]at w h;have N:(st.hs.offer r.nx r.evs).2.1.length=ready.length:=by grind
 unfold oT at k;rw[N]at k;generalize hO:st.hs.offer r.nx r.evs=O at *;have hv:∀e∈O.2.1,aG e.value:=by
  intro e he;rw[<-hO]at he
  rcases (wy (s:=st.hs) (first:=r.nx) (items:=r.evs)).1 e he with h|⟨q,h,rfl⟩
  .exact E.vals e h
  .exact (f.rows q h).2.2
 have l2:ready.length<=1000000:=by
  have h1:=It (s:=st.hs) (first:=r.nx) (items:=r.evs);rw[hO,N]at h1;have h2:=f.hs.rows.length;have h3:=f.hs.most2;omega
 have V:=λn hn=>Ab (c:=s.cfg) (now:=r.nw) (a:=r.ag) (ep:=r.ep) (first:=st.hs.next) (evs:=O.2.1) (x:=⟨{ st with hs:=O.1 },s.ms,s.cm⟩) ok.sh hv n hn
 generalize hG:dE s.cfg r.nw r.ag r.ep st.hs.next O.2.1 ⟨{ st with hs:=O.1 },s.ms,s.cm⟩=G at *;refine⟨λla d lc i H'=>∃j:Nat,i=j/\j<=ready.length/\d=j/\
  aA H' (cellsA sb (dI { s with now:=r.nw } p) 314::Ma.markC p.mb p.mm (G j).1.ms::Ma.mapF p.mm (G j).1.ms.m::shC p.hb p.hm s.cfg.cells::cB p.hm (G j).1.cm::cellsA L [PA cb 0,PA hb 0,aB (G j).1.st.last] 421::ckA cb st.ck::
   slA 428 87 la j lc (aF dw (G j).2)::slA 258 4 a2 ready.length c2 (aF bT ready)::hldA I hb O.1::I::mapA aB ptV p.tm (cQ 0 bl)::mg Q bl s.sts r.ag.toNat::Ro.rollC p.rb p.rm s.cfg.agents::Ro.mapE p.rm s.rows::slA 288 74 p.ka s.kept.length p.kc (aF cW s.kept)::cellsA b (dH r a c) 169::F),
  λ_ _ _ i _=>ready.length-i.toNat,⟨0,rfl,by omega,rfl,?_⟩,?_⟩
 .have h0:G 0=(⟨{ st with hs:=O.1 },s.ms,s.cm⟩,[]):=by rw[<-hG];rfl
  rw[h0];exact (h.sl_nil 428 87).o [9,12,13,14,15,5,6,0,1,2,3,7,8,10,11,16,17] 18
 rintro la d lc i H4 ⟨j,rfl,hj,rfl,h⟩;obtain⟨j1,v,h8,T⟩:=V d (by omega);refine⟨λhc=>?_,λhc=>?_⟩
 .have y:d<ready.length:=by grind
  have R:=h.sl_rd 8 rfl;refine⟨by omega,_,_,R.some dF (by omega) y,_,_,_,_,_,_,R.els dF y,?_⟩;refine h.al λb2 _ h=>?_
  refine h.st 0 rfl rfl ?_;intro H5 h;refine⟨_,h.r 17,_,_,_,_,_,_,h.q 0,?_⟩;have h:=h.o [1,2,3,4,5,6,7,0,8,9,10,11,12,13,14,15,16,17] 18;have h9:O.2.1.getD d Pv.z=ready[d].p:=by
   grind
  have h7:aG ready[d].value:=by
   have:=hv ready[d].p (by grind);exact this
  have W:(G d).1.st.ck.smps.length<=8:=by rw[v];exact f.ck.len
  rw[<-show (G d).1.st.ck=st.ck from v]at h;refine R6 (c:=s.cfg) (now:=r.nw) (a:=r.ag) (st:=(G d).1.st) (e:=ready[d]) (mm:=p.mm) (p_mb:=p.mb) (p_hb:=p.hb) (p_hm:=p.hm) W j1 h7 rfl rfl rfl rfl (λH h=>(M _ (V7 y)).at h 4 rfl) h λH6 h=>⟨_,_,_,_,rfl,?_⟩
  rw[show (G d).1.st.ck=st.ck from v]at h;have P:G (d+1)=((tY s.cfg r.nw r.ag r.ep (st.hs.next+d) (G d).1 ready[d].p).1,(G d).2++[(tY s.cfg r.nw r.ag r.ep (st.hs.next+d) (G d).1 ready[d].p).2]):=by
   rw[<-h9,<-hG];rfl
  unfold tY at P;generalize dN s.cfg r.nw r.ag (G d).1.st (G d).1.ms (G d).1.cm ready[d].p=J at *;refine h.al λb3 _ h=>?_
  refine h.al λb4 _ h=>?_
  refine h.st 1 rfl rfl ?_;intro H7 h;refine h.st 0 rfl rfl ?_;intro H8 h;refine⟨_,h.r 19,_,h.r 19,?_⟩;refine h.al λb5 _ h=>?_
  refine h.st 0 rfl rfl ?_;intro H9 h;refine⟨_,_,_,h.q 0,_,_,h.q 2,_,_,h.q 1,?_⟩;refine h.al λb6 _ h=>?_
  have l1:=f.next;have j2:=f.hs.next0;have hw:i64.wrap (st.hs.next+(d:Int))=st.hs.next+d:=aJ;rw[hw]at h;refine h.append (m:=1) (ws:=dw { kind:=3,ida:=r.ag,ide:=r.ep,seq:=st.hs.next+d,reason:=J.reason,win:=J.win,gap:=J.gap }) sl39 12 rfl (h.ce_rd 0 rfl) rfl (tX _) (by omega) (by omega) λa5 c5 t h=>⟨_,_,_,rfl,?_⟩
  rw[aJ (x:=(d:Int)+1)];refine⟨⟨d+1,by omega,y,rfl,?_⟩,by grind⟩;rw[P];have e:aF dw ((G d).2++[{ kind:=3,ida:=r.ag,ide:=r.ep,seq:=st.hs.next+d,reason:=J.reason,win:=J.win,gap:=J.gap }])=aF dw (G d).2++dw { kind:=3,ida:=r.ag,ide:=r.ep,seq:=st.hs.next+d,reason:=J.reason,win:=J.win,gap:=J.gap }:=by
   grind [aF]
  dsimp only;rw[e];exact h.o [4,5,6,7,8,9,10,12,13,14,15,16,17,18,19,20,21] 22
 .have h6:d=ready.length:=by grind
  subst h6;refine⟨_,h.r 16,_,h.r 16,dX ⟨_,h.r 5,_,tT (h.o [9] 10),?_⟩⟩;refine h.al λb7 _ h=>?_
  refine h.append (m:=1) (ws:=dw { kind:=2,agent:=r.ag,epoch:=r.ep,next:=O.1.next }) sl39 8 rfl (h.ce_rd 0 rfl) rfl (tX _) (by omega) (by omega) λa5 c5 t h=>⟨_,_,_,rfl,?_⟩
  have e:aF dw ((G ready.length).2++[{ kind:=2,agent:=r.ag,epoch:=r.ep,next:=O.1.next }])=aF dw (G ready.length).2++dw { kind:=2,agent:=r.ag,epoch:=r.ep,next:=O.1.next }:=by
   grind [aF]
  have hk:=k I a5 c5 t D;rw[V6,T,e]at hk;refine hk ?_;have h:=h.o [13,6,7,10,12,1,14,15,2,3,4,5,16,11,8] 18;have h:aA t (mg I bl s.sts r.ag.toNat::_):=tV D h;have h:=h.o [1,2,3,4,0,5,6,7,8,9,10,11,12,13,14] 15;have h:aA t (strA I L (G ready.length).1.st::_):=gM.2 ⟨cb,hb,by rw[v,h8];exact h⟩;have h:=h.o [1,0,2,3,4,5,6,7,8,9,10,11,12] 13;have h:=rR B h;have h:=h.o [1,2,3,4,5,6,7,0,8,9,10] 11;have h:aA t (stA I sb { s with now:=r.nw,ms:=(G ready.length).1.ms,cm:=(G ready.length).1.cm,sts:=s.sts.set r.ag.toNat (some (G ready.length).1.st) }::_):=dx.2 ⟨p,h⟩;exact h.o [1,2,0] 3
end
def Ot.z:Ot:=(⟨0,⟨#[]⟩⟩,Cl.z)
def gN(first:Int)(outs:List Ot):Nat->List Eff
 | 0=>[]
 | n+1=>gN first outs n++[{ kind:=4,number:=first+n,out:=outs.getD n Ot.z }]
theorem qx(first:Int)(a:List Ot):∀n,(gN first a n).length=n
 | 0=>rfl
 | n+1=>by
  show (gN first a n++[_]).length=_;rw[V6,qx first a n];rfl
abbrev aV.next(s:aV):Int:=s.sunk+(s.kept.length:Int)
def i8(s:aV)(now:Int):List Ot:=iy s.cm (eZ s.cfg.gd (s.ms.tick now).1.value)
def lk(s:aV)(now:Int):aV×List Eff:=
 ({ s with now:=now,ms:=(s.ms.tick now).1,cm:=ni s.cm (eZ s.cfg.gd (s.ms.tick now).1.value),kept:=s.kept++i8 s now },gN s.next (i8 s now) (i8 s now).length)
def rT(s:aV)(r:Rp):aV:=match s.sts[r.ag.toNat]? with
 | some (some st)=>if r.nx≠st.hs.next\/r.st<st.last\/st.ck.held=true then { s with now:=r.nw } else
   if (cJ st.ck (bQ s.ms r.ag) r.nw r.st).2≠0 then { s with now:=r.nw } else
   { s with now:=r.nw,ms:=(s.ms.raise r.ag (cJ st.ck (bQ s.ms r.ag) r.nw r.st).1.lo).1,sts:=s.sts.set r.ag.toNat (some { st with last:=r.st }) }
 | _=>s
section
variable {F L:List aD}{H:aC}{K KP:KQ}{Q Q':aD}
theorem Jb{sb:Nat}{s:aV}{p:SAd}(h:aA H F)(i:Nat)(a:aS i F=cellsA sb (dI s p) 314)(c:0<=s.sunk)(hs:s.sunk<=4611686018427387903)(b:s.kept.length<=1000000000000) :
  bO Tryz.prog 349 #[PA sb 0] H (aB s.next):=by
 refine cM 349 28 ⟨_,h.rd i a _,_,_,_,h.rd i a _,?_,rfl⟩;rw[aJ];rfl
theorem Tick_spec{sb:Nat}{s:aV}{now:Int}(ok:dh s)(hs:s.sunk<=4611686018427387903)(D:s.kept.length<=100000000000)(h:aA H (stA Q sb s::F))
  (k:∀t w H',aA H' (slA 428 87 t (lk s now).2.length w (aF dw (lk s now).2)::stA Q sb (lk s now).1::F)->K (.slice t (lk s now).2.length w) H') :
  CF 259 #[PA sb 0,aB now] H K:=by
 obtain⟨p,h⟩:=dx.1 h;refine O9 ?_;refine h.st 0 rfl rfl ?_;intro U h;refine⟨_,h.r 0,?_⟩;have h:=h.o [3,4,0,1,2,5,6,7,8] 9;refine Ma.Tick_spec ok.ms h λH2 h=>⟨_,rfl,_,h.r 2,_,_,_,h.q 2,_,h.r 2,_,Ma.Value_spec h 0 rfl,?_⟩
 unfold lk i8 at k;generalize hM:(s.ms.tick now).1=M at *;refine vT (g:=s.cfg.gd) h λZ h=>⟨_,rfl,h.r 2,?_⟩
 have E:=ok.sh.len;have G:=ok.sh.m2;generalize eZ s.cfg.gd M.value=W at *;have h:=h.o [5,6,0,1,2,3,4,7,8] 9;refine Qu (by omega) h λB J V h=>⟨_,_,_,rfl,?_⟩
 have y:(iy s.cm W).length<=1024:=by
  have P:(iy s.cm W).length<=(bP s.cm).length:=by grind [iy,List.takeWhile_sublist]
  have Y:(bP s.cm).length=s.cm.length:=by unfold bP;rw[VP,vZ];grind
  omega
 generalize hO:iy s.cm W=O at *;generalize ni s.cm W=C at *;refine⟨λla a lc i H'=>∃(j:Nat) (ka:Xa) (kc:Nat),i=j/\j<=O.length/\a=j/\
  aA H' (slA 428 87 la j lc (aF dw (gN s.next O j))::slA 288 74 B O.length J (aF cW O)::cellsA sb (dI { s with now:=now,kept:=s.kept++O.take j } { p with ka:=ka,kc:=kc }) 314::Ro.rollC p.rb p.rm s.cfg.agents::Ro.mapE p.rm s.rows::Ma.markC p.mb p.mm M::Ma.mapF p.mm M.m::shC p.hb p.hm s.cfg.cells::cB p.hm C::strmA Q p.tm s.sts::
   slA 288 74 ka (s.kept++O.take j).length kc (aF cW (s.kept++O.take j))::F),
  λ_ _ _ i _=>O.length-i.toNat,⟨0,p.ka,p.kc,rfl,by omega,rfl,?_⟩,?_⟩
 .rw [W9,VQ];exact (h.sl_nil 428 87).o [0,1,6,7,8,4,5,2,3,9,10] 11
 rintro la a lc i v ⟨j,ka,kc,rfl,T,rfl,h⟩;have I:(O.take a).length=a:=by grind
 refine⟨λA=>?_,λA=>?_⟩
 .have b:a<O.length:=by grind
  have d:=h.sl_rd 1 rfl;have c:=d.els iU b;refine⟨by omega,_,_,d.some iU (by omega) b,_,_,_,_,_,_,_,_,_,_,c,?_⟩;refine h.al λb1 _ h=>?_
  refine h.sta 0 rfl rfl λR h=>?_
  have e:=ok.sunk;refine⟨_,Jb (s:=({ s with now:=now,kept:=s.kept++O.take a }:aV)) (p:={ p with ka:=ka,kc:=kc }) h 3 rfl e hs (by grind),?_⟩;have f:({ s with now:=now,kept:=s.kept++O.take a }:aV).next=s.next+a:=by
   grind
  rw[f];refine⟨_,_,_,_,_,_,_,_,_,_,h.rda 0 rfl,?_⟩;refine h.al λb2 _ h=>?_
  refine h.append (m:=1) (ws:=dw { kind:=4,number:=s.next+a,out:=O[a] }) sl39 2 rfl (h.ce_rd 0 rfl) rfl (tX _) (by omega) (by omega) λa5 c5 S h=>⟨_,_,_,rfl,?_⟩
  refine⟨_,_,_,h.r 4,_,_,_,_,_,_,_,_,_,_,h.rda 1 rfl,?_⟩;refine h.al λb3 _ h=>⟨h.r 5,?_⟩
  refine h.append (m:=1) (ws:=cW O[a]) sl86 13 rfl (h.ce_rd 0 rfl) rfl (tK _) (by grind) (by grind) λa6 c6 L h=>⟨_,_,_,rfl,?_⟩
  refine h.st 5 rfl rfl ?_;intro N h;rw[aJ (x:=(a:Int)+1)];refine⟨⟨a+1,a6,c6,by omega,b,rfl,?_⟩,by grind⟩;have e1:gN s.next O (a+1)=gN s.next O a++[{ kind:=4,number:=s.next+a,out:=O[a] }]:=by
   grind [gN]
  have e2:aF dw (gN s.next O (a+1))=aF dw (gN s.next O a)++dw { kind:=4,number:=s.next+a,out:=O[a] }:=by
   grind [aF]
  have e3:s.kept++O.take (a+1)=(s.kept++O.take a)++[O[a]]:=by simp_all
  have e4:aF cW (s.kept++O.take (a+1))=aF cW (s.kept++O.take a)++cW O[a]:=by
   grind [aF]
  have e5:(s.kept++O.take (a+1)).length=(s.kept++O.take a).length+1:=by grind
  have e6:dI ({ s with now:=now,kept:=s.kept++O.take (a+1) }:aV) { p with ka:=a6,kc:=c6 }=cq (dI ({ s with now:=now,kept:=s.kept++O.take a }:aV) { p with ka:=ka,kc:=kc }) 19 [.slice a6 ((s.kept++O.take a).length+1) c6]:=by
   simp only[dI,e5];rfl
  rw[e2,e4,e5,e6];exact h.o [3,4,5,6,7,8,9,10,11,12,13] 14
 .have n:a=O.length:=by grind
  subst n;rw[VO]at h;have u:=k la lc v;rw[qx]at u;refine u ?_;have h:=h.o [2,3,4,5,6,7,8,9,10,0] 11;have h:aA v (stA Q sb { s with now:=now,ms:=M,cm:=C,kept:=s.kept++O }::_):=dx.2 ⟨{ p with ka:=ka,kc:=kc },h⟩;exact h.o [1,0] 2
theorem RG{sb:Nat}{s:aV}{r:Rp}{a:Xa}{c:Nat}{st:Str}(ok:dh s)(y:0<=r.ag)(u:s.sts[r.ag.toNat]?=some (some st))(h:aA H (stA Q sb s::F))
  (k:∀H',aA H' (stA Q sb (rT s r)::F)->K (.tuple #[]) H') :
  CF 258 #[PA sb 0,.agg ⟨dH r a c⟩] H K:=by
 have w:((r.ag.toNat:Nat):Int)=r.ag:=by omega
 have v:=ok.sts st (VW u);unfold rT at k;rw[u]at k;dsimp only at k;refine OD ?_;refine h.al λb _ h=>⟨_,h.r 0,?_⟩
 have h:=h.o [1,0] 2;obtain⟨p,h⟩:=dx.1 h;refine h.st 0 rfl rfl ?_;intro A h;have h:=h.o [7,0,1,2,3,4,5,6,8,9] 10;obtain⟨x,bl,i,h⟩:=qt h u;have h:=h.o [1,0,2,3,4,5,6,7,8,9,10,11] 12;obtain⟨cb,hb,h⟩:=gM.1 h;have j:=qu i h 3 rfl;rw[w]at j;have d:∀(ms:MS) (f:Str) H',aA H' (cellsA x [PA cb 0,PA hb 0,aB f.last] 421::ckA cb f.ck::hldA Q hb f.hs::mapA aB ptV p.tm (cQ 0 bl)::mg Q bl s.sts r.ag.toNat::cellsA sb (dI { s with now:=r.nw } p) 314::Ro.rollC p.rb p.rm s.cfg.agents::Ro.mapE p.rm s.rows::Ma.markC p.mb p.mm ms::Ma.mapF p.mm ms.m::shC p.hb p.hm s.cfg.cells::cB p.hm s.cm::slA 288 74 p.ka s.kept.length p.kc (aF cW s.kept)::F)->
   aA H' (stA Q sb { s with now:=r.nw,ms:=ms,sts:=s.sts.set r.ag.toNat (some f) }::F):=by
  intro ms f H' h;have h:=gM.2 ⟨cb,hb,h⟩;have h:=h.o [1,0,2,3,4,5,6,7,8,9,10] 11;have h:=rR i h;exact dx.2 ⟨p,h.o [1,2,3,4,5,6,7,0,8] 9⟩
 have e:s.sts.set r.ag.toNat (some st)=s.sts:=by
  grind [List.set_getElem_self]
 refine⟨_,h.r 5,_,h.r 13,_,j,_,h.r 13,dX ⟨_,h.r 0,_,tT (h.o [2] 3),_,λ_=>h.r 13,λ_=>trivial,_,λ_=>h.r 0,λ_=>trivial,_,λ_=>h.rd 0 rfl 0,_,λ_=>tI (h.o [1] 2),λn=>?_,λn=>?_⟩⟩
 .have n:r.nx≠st.hs.next\/r.st<st.last\/st.ck.held=true:=by
   grind
  rw[V1 n]at k;have h:=d s.ms st _ (h.o [0,1,2,3,4,5,6,7,8,9,10,11,12] 14);rw[e]at h;exact k _ h
 have n:¬(r.nx≠st.hs.next\/r.st<st.last\/st.ck.held=true):=by
  grind
 rw[Vz n]at k;refine⟨_,h.r 13,_,h.r 13,?_⟩;have h:=h.o [5,8,9,0,1,2,3,4,6,7,10,11,12,13] 14;refine IW (a:=r.ag) (stamp:=r.st) (now:=r.nw) v.ck.len rfl rfl h λE h=>⟨_,_,_,rfl,?_⟩
 generalize cJ st.ck (bQ s.ms r.ag) r.nw r.st=T at *;refine h.al λb1 _ h=>?_
 refine h.st 0 rfl rfl ?_;intro B h;refine⟨λn=>?_,λn=>?_⟩
 .rw [V1 (by grind)]at k;have h:=d s.ms st _ (h.o [4,5,6,7,8,1,9,10,2,3,11,12,13] 15);rw[e]at h;exact k _ h
 .rw [Vz (by grind)]at k;refine⟨_,h.r 14,dX ?_⟩;refine h.st 4 rfl rfl ?_;intro D h;refine⟨_,h.r 1,_,h.r 14,_,h.r 0,?_⟩;have h:=h.o [2,3,0,1,4,5,6,7,8,9,10,11,12,13,14] 15;refine Ma.Raise_spec (a:=r.ag) (t:=T.1.lo) h λC h=>⟨_,rfl,?_⟩
  exact k _ (d _ { st with last:=r.st } _ (h.o [4,5,6,7,8,3,9,10,0,1,11,12,13] 15))
end
def isE(s:aV)(a ep:Int):Bool:=decide (0<(bE s.rows a).epoch)&&decide ((bE s.rows a).epoch=ep)
def io(s:aV)(a:Int):Option Str:=if a<0 then none else (s.sts[a.toNat]?).join
def tZ(s:aV)(r:Rp)(now:Int):Int:=
 if 0<r.ep/\isE s r.ag r.ep=false then 22 else
 if now<s.now then 11 else
 if r.kind=4 then (match io s r.ag with
  | some st=>if st.ck.smps.length=0/\st.ck.held=false then 19 else 0
  | none=>0) else 0
def fB(s:aV)(r:Rp):Int:=
 if r.kind=1 then (if 1099511627776<=s.boots then 17 else 0) else
 if r.kind=7 then (if s.next<r.nx then 11 else 0) else
 tZ s r (if r.kind=3 then r.sm.came else r.nw)
structure RLim(r:Rp):Prop where
 kind:1<=r.kind/\r.kind<=7
 ag:0<=r.ag/\r.ag<=63
 ep:(r.kind=3\/r.kind=4\/r.kind=5->1<=r.ep)/\0<=r.ep/\r.ep<=1099511627776
 bt:(r.kind=2->1<=r.bt)/\0<=r.bt/\r.bt<=1099511627776
 nx:0<=r.nx/\r.nx<=1099511627776
 st:0<=r.st/\r.st<=4611686018427387903
 nw:isT r.nw
 sm:r.sm.ok
 evs:r.kind=4->kv r.nx r.evs=true
 none:r.kind≠4->r.evs=[]
theorem lm{r:Rp}(h:r.right=true):RLim r:=by
 unfold Rp.right at h;rw[V4,V4,V4]at h;obtain⟨⟨⟨e,s⟩,n⟩,c⟩:=h;unfold Rp.lim at c;simp only[inM,V4,V5]at e c;obtain⟨⟨⟨⟨⟨⟨k,m⟩,f⟩,j⟩,i⟩,a⟩,d⟩:=c;refine⟨e,k,⟨λb=>?_,?_,m.2⟩,⟨λb=>?_,?_,f.2⟩,j,i,a,d,λb=>?_,λb=>?_⟩
 .grind
 .grind
 .grind
 .grind
 .grind
 grind
theorem rowE_at{rows:List En}{a:Int}(h:0<(bE rows a).epoch):0<=a/\∃e,rows[a.toNat]?=some e/\0<e.epoch:=by
 unfold bE at h
 split at h
 .grind [En.z]
 .refine⟨by omega,?_⟩
  cases e:rows[a.toNat]? with
  | none=>grind [En.z]
  | some x=>grind
theorem dh.str{s:aV}(ok:dh s){a:Int}(h:0<(bE s.rows a).epoch):0<=a/\∃st,s.sts[a.toNat]?=some (some st):=by
 obtain⟨b,e,d,c⟩:=rowE_at h;exact⟨b,(ok.reg a.toNat).2 ⟨e,d,c⟩⟩
theorem wR{s:aV}{a:Int}{st:Str}(b:0<=a)(h:s.sts[a.toNat]?=some (some st)):io s a=some st:=by
 unfold io;grind
section
variable {F L:List aD}{H:aC}{K KP:KQ}{Q Q':aD}
theorem RH{sb:Nat}{s:aV}{r:Rp}{a:Xa}{c:Nat}(ok:dh s)(hs:s.sunk<=4611686018427387903)(O:s.kept.length<=100000000000)(R:r.right=true)(h:aA H (stA Q sb s::F))
  (k:∀H',aA H' (stA Q sb s::F)->K (aB (fB s r)) H') :
  CF 252 #[PA sb 0,.agg ⟨dH r a c⟩] H K:=by
 refine cN 252 0x1121513dc13dc17492283c9d2171b9c [[],[(44,sB)],[(5,sI)]] ?_;refine h.al λb H0 h=>⟨_,h.r 0,?_⟩
 have h:=h.o [1,0] 2;obtain⟨p,h⟩:=dx.1 h;have fin:∀H',aA H' (cellsA sb (dI s p) 314::Ro.rollC p.rb p.rm s.cfg.agents::Ro.mapE p.rm s.rows::Ma.markC p.mb p.mm s.ms::Ma.mapF p.mm s.ms.m::shC p.hb p.hm s.cfg.cells::cB p.hm s.cm::strmA Q p.tm s.sts::slA 288 74 p.ka s.kept.length p.kc (aF cW s.kept)::cellsA b (dH r a c) 169::F)->aA H' (stA Q sb s::F):=λH' h=>by
  have h:=dx.2 ⟨p,h⟩;exact h.o [0] 2
 unfold fB at k;refine⟨_,h.r 9,λE=>?_,λE=>⟨λj=>?_,λj=>?_⟩⟩
 .rw [V1 (V3 E)]at k;refine⟨_,h.r 0,λhb=>?_,λhb=>?_⟩
  .rw [V1 (V3 hb)]at k;exact k _ (fin _ h)
  .rw [Vz (V2 hb)]at k;exact k _ (fin _ h)
 .rw [Vz (V2 E),V1 (V3 j)]at k;refine⟨_,h.r 9,_,Jb h 0 rfl ok.sunk hs (by omega),λhb=>?_,λhb=>?_⟩
  .rw [V1 (V3 hb)]at k;exact k _ (fin _ h)
  .rw [Vz (V2 hb)]at k;exact k _ (fin _ h)
 rw[Vz (V2 E),Vz (V2 j)]at k;have N:=lm R;intro Y W;have f:∀now,(∀H',aA H' (stA Q sb s::F)->K (aB (tZ s r now)) H')->Y now H0:=by
  intro now k;refine W _ _ ?_;intro L I;unfold tZ at k;have C:∀(t:Bool) H',t=decide (0<r.ep/\isE s r.ag r.ep=false)->aA H' (cellsA sb (dI s p) 314::Ro.rollC p.rb p.rm s.cfg.agents::Ro.mapE p.rm s.rows::Ma.markC p.mb p.mm s.ms::Ma.mapF p.mm s.ms.m::shC p.hb p.hm s.cfg.cells::cB p.hm s.cm::strmA Q p.tm s.sts::slA 288 74 p.ka s.kept.length p.kc (aF cW s.kept)::cellsA b (dH r a c) 169::F)->L t H':=by
   rintro t H' rfl h;refine I _ _ ?_;refine⟨λx=>?_,λx=>?_⟩
   .rw [V1 (V3 x)]at k;exact k _ (fin _ h)
   have x:=V2 x;rw[Vz x]at k;refine⟨_,h.r 0,λM=>?_,λM=>?_⟩
   .rw [V1 (V3 M)]at k;exact k _ (fin _ h)
   rw[Vz (V2 M)]at k;refine⟨_,h.r 9,?_⟩;intro U B;refine⟨λw=>?_,λw=>?_⟩
   .have w:=V3 w;rw[V1 w]at k;have S:=N.ep.1 (.inr (.inl w));have v:isE s r.ag r.ep=true:=by
     grind
    unfold isE at v;rw[V4]at v;obtain⟨J,st,d⟩:=ok.str (V3 v.1);rw[wR J d]at k;dsimp only at k;have A:=ok.sts st (VW d);have D:((r.ag.toNat:Nat):Int)=r.ag:=by omega
    have h:=h.o [7,0,1,2,3,4,5,6,8,9] 10;obtain⟨P,bl,e,h⟩:=qt h d;have h:=h.o [1,0,2,3,4,5,6,7,8,9,10,11] 12;obtain⟨cb,hb,h⟩:=gM.1 h;have i:=qu e h 3 rfl;rw[D]at i;have n:s.sts.set r.ag.toNat (some st)=s.sts:=by
     have T:r.ag.toNat<s.sts.length:=(List.getElem?_eq_some_iff.1 d).1;have:s.sts[r.ag.toNat]=some st:=by grind
     grind [List.set_getElem_self]
    conv=>whnf
    refine⟨_,h.r 5,_,h.r 13,_,i,⟨_,h.rd 0 rfl 0,?_⟩⟩;have h:=h.o [1,0,2,3,4,5,6,7,8,9,10,11,12,13] 14;have V:=A.ck.len;refine zg h (by omega) λsa sc H2 h=>⟨_,_,_,rfl,λ_=>trivial,_,λ_=>h.rd 2 rfl 0,_,λ_=>tI (h.o [1] 2),?_⟩
    have back:aA H2 (cellsA sb (dI s p) 314::Ro.rollC p.rb p.rm s.cfg.agents::Ro.mapE p.rm s.rows::Ma.markC p.mb p.mm s.ms::Ma.mapF p.mm s.ms.m::shC p.hb p.hm s.cfg.cells::cB p.hm s.cm::strmA Q p.tm s.sts::slA 288 74 p.ka s.kept.length p.kc (aF cW s.kept)::cellsA b (dH r a c) 169::F):=by
     have h:=h.o [2,1,3,4,5,6,7,8,9,10,11,12,13,14] 15;have h:=gM.2 ⟨cb,hb,h⟩;have h:=h.o [1,0,2,3,4,5,6,7,8,9,10,11] 12;have h:=rR e h;rw[n]at h;exact h.o [1,2,3,4,5,6,7,0,8,9] 10
    refine⟨λu=>?_,λu=>?_⟩
    .have u:st.ck.smps.length=0/\st.ck.held=false:=by
      grind
     rw[V1 u]at k;exact k _ (fin _ back)
    .have u:¬(st.ck.smps.length=0/\st.ck.held=false):=by
      grind
     rw[Vz u]at k;refine B _ ?_;exact k _ (fin _ back)
   .rw [Vz (V2 w)]at k;refine B _ ?_;exact k _ (fin _ h)
  refine⟨_,h.r 9,λ_=>trivial,_,λ_=>h.r 0,_,λ_=>h.r 9,_,λ_=>h.r 9,λy=>?_,λy=>?_⟩
  .have y:=V3 y;have h:=h.o [1,2,0,3,4,5,6,7,8,9] 10;refine Ro.Is_spec ok.rows (agent:=r.ag) (epoch:=r.ep) h λH2 h=>⟨_,rfl,?_⟩
   refine C _ _ ?_ (h.o [2,0,1,3,4,5,6,7,8,9] 10);show (!isE s r.ag r.ep)=_
   grind
  .have y:¬0<r.ep:=λu=>y (WI u)
   refine C _ _ ?_ h
   grind
 refine⟨λG=>?_,λG=>?_⟩
 .rw [V1 (V3 G)]at k;exact⟨_,h.r 9,f _ k⟩
 .rw [Vz (V2 G)]at k;exact f _ k
end
def nv(c:Cfg):Str:=⟨⟨c.rho,c.trust,false,0,[]⟩,⟨0,c.hold,[]⟩,-1⟩
def rU(a ep n:Int):Eff:={ kind:=3,ida:=a,ide:=ep,seq:=n,reason:=5 }
def jy(s:aV)(a:Int):List Eff:=match io s a with
 | some st=>(aL st.hs.rows).map (rU a (bE s.rows a).epoch)
 | none=>[]
def fV(s:aV)(a:Int):MS:=match io s a with
 | some _=>(s.ms.leave a).1
 | none=>s.ms
def jz(s:aV)(r:Rp):aV×List Eff×Int:=
 if (cG s.cfg.agents s.rows r.ag r.bt r.nw).2.2.2≠0 then (s,[],(cG s.cfg.agents s.rows r.ag r.bt r.nw).2.2.2) else
 if (cG s.cfg.agents s.rows r.ag r.bt r.nw).2.2.1 then
  ({ s with now:=r.nw,rows:=(cG s.cfg.agents s.rows r.ag r.bt r.nw).1,ms:=((fV s r.ag).join r.ag r.nw).1,sts:=s.sts.set r.ag.toNat (some (nv s.cfg)) },
   jy s r.ag++[{ kind:=1,agent:=r.ag,epoch:=(cG s.cfg.agents s.rows r.ag r.bt r.nw).2.1.epoch,boot:=(cG s.cfg.agents s.rows r.ag r.bt r.nw).2.1.boot }],0)
 else ({ s with now:=r.nw,rows:=(cG s.cfg.agents s.rows r.ag r.bt r.nw).1 },[{ kind:=1,agent:=r.ag,epoch:=(cG s.cfg.agents s.rows r.ag r.bt r.nw).2.1.epoch,boot:=(cG s.cfg.agents s.rows r.ag r.bt r.nw).2.1.boot }],0)
theorem RI{most:Int}{rows:List En}{a b n:Int}(h:(cG most rows a b n).2.2.2≠0):(cG most rows a b n).1=rows:=by
 unfold cG at h ⊢
 grind
section
variable {F L:List aD}{H:aC}{K KP:KQ}{Q Q':aD}
theorem str_new{tm k b:Nat}{bl:List (Option Nat)}{sts:List (Option Str)}{s:Str}(hm:bl.map Option.isSome=sts.map Option.isSome)(d:k<sts.length)
  (h:aA H (mapA aB ptV tm (mset ((k:Nat):Int) (some b) (cQ 0 bl))::strA Q b s::mg Q bl sts k::F)):aA H (strmA Q tm (sts.set k (some s))::F):=by
 have c:bl.length=sts.length:=by have:=congrArg List.length hm;grind
 have e:=oR (Q:=Q) (b:=b) (s:=s) (bl:=bl.set k none) (sts:=sts.set k none) (k:=k) (by grind) (by grind);rw[WL,WL]at e;have a:=wK (b:=b) (l:=bl) (i:=0) (k:=k) (by omega);rw[VB]at a;rw[<-tk (r:=tm) a]at h;refine lh.2 ⟨bl.set k (some b),?_,?_⟩
 .simp_all
 .rw [<-e];have h:=h.o [1,2,0] 3;have h:=eX.2 h;exact h.o [1,0] 2
theorem RJ{sb:Nat}{s:aV}{p:SAd}(ok:qv s.cfg)(h:aA H (cellsA sb (dI s p) 314::F))
  (k:∀b H',aA H' (strA Q b (nv s.cfg)::cellsA sb (dI s p) 314::F)->K (PA b 0) H'):CF 338 #[PA sb 0] H K:=by
 refine cM 338 4380 ?_;refine⟨_,h.r 0,_,h.r 0,?_⟩;refine ET h (λa=>V0 ok.rate a) λ_ cb c h=>⟨_,_,rfl,_,h.r 1,?_⟩
 refine Iv (Q:=Q) h (λa=>V0 ok.hd (by omega)) λhb H2 _ h=>⟨_,_,rfl,?_⟩
 refine h.al λb _ h=>?_
 refine k b _ (gM.2 ⟨cb,hb,?_⟩);exact h.o [0,2,1,3] 4
theorem Grant_spec{sb:Nat}{s:aV}{r:Rp}{a:Xa}{c:Nat}(ok:dh s)(hr:r.right=true)(l3:r.kind=2)(h:aA H (stA Q sb s::F))
  (k:∀C D H',aA H' (slA 428 87 C (jz s r).2.1.length D (aF dw (jz s r).2.1)::stA Q sb (jz s r).1::F)->K (.tuple #[.slice C (jz s r).2.1.length D,aB (jz s r).2.2]) H') :
  CF 253 #[PA sb 0,.agg ⟨dH r a c⟩] H K:=by
 have hL:=lm hr;have u:((r.ag.toNat:Nat):Int)=r.ag:=by have:=hL.ag;omega
 refine OG ?_;refine h.al λb H0 h=>?_
 have h:=h.o [1,0] 2;obtain⟨p,h⟩:=dx.1 h;intro Jn hJ;have I:∀bb H',aA H' (cellsA bb (encE (bE s.rows r.ag)) 332::cellsA sb (dI s p) 314::Ro.rollC p.rb p.rm s.cfg.agents::Ro.mapE p.rm s.rows::Ma.markC p.mb p.mm s.ms::Ma.mapF p.mm s.ms.m::shC p.hb p.hm s.cfg.cells::cB p.hm s.cm::strmA Q p.tm s.sts::slA 288 74 p.ka s.kept.length p.kc (aF cW s.kept)::cellsA b (dH r a c) 169::F)->Jn bb 0 H':=by
  intro bb H1 h;refine hJ _ _ _ ?_;intro h6 h4;unfold jz at k;have O:=RI (most:=s.cfg.agents) (rows:=s.rows) (a:=r.ag) (b:=r.bt) (n:=r.nw);have A:∀T H',aA H' (cellsA T (encE (cG s.cfg.agents s.rows r.ag r.bt r.nw).2.1) 332::cellsA bb (encE (bE s.rows r.ag)) 332::cellsA sb (dI s p) 314::Ro.rollC p.rb p.rm s.cfg.agents::Ro.mapE p.rm (cG s.cfg.agents s.rows r.ag r.bt r.nw).1::Ma.markC p.mb p.mm s.ms::Ma.mapF p.mm s.ms.m::shC p.hb p.hm s.cfg.cells::cB p.hm s.cm::strmA Q p.tm s.sts::slA 288 74 p.ka s.kept.length p.kc (aF cW s.kept)::cellsA b (dH r a c) 169::F)->
    h6 T 0 (cG s.cfg.agents s.rows r.ag r.bt r.nw).2.2.1 (cG s.cfg.agents s.rows r.ag r.bt r.nw).2.2.2 H':=by
   intro T H2 h;refine h4 _ _ _ _ _ ?_;generalize cG s.cfg.agents s.rows r.ag r.bt r.nw=G at *;refine⟨λV=>?_,λV=>?_⟩
   .have V:G.2.2.2≠0:=by grind
    rw[V1 V]at k;rw[O V]at h;have h:=h.o [2,3,4,5,6,7,8,9,10] 12;have h:=dx.2 ⟨p,h⟩;exact k none 0 _ (h.sl_nil 428 87)
   have V:¬G.2.2.2≠0:=by grind
   rw[Vz V]at k;refine⟨_,h.r 11,?_⟩;refine h.st 2 rfl rfl ?_;intro U h;intro h0 h9;have fin:∀(d:List Eff) (la:Xa) (lc:Nat) (s':aV) (p':SAd) H',d.length<=1000000->(∀C D y,aA y (slA 428 87 C (d.length+1) D (aF dw (d++[{ kind:=1,agent:=r.ag,epoch:=G.2.1.epoch,boot:=G.2.1.boot }]))::stA Q sb s'::F)->K (.tuple #[.slice C (d.length+1) D,aB 0]) y)->
     aA H' (slA 428 87 la d.length lc (aF dw d)::cellsA T (encE G.2.1) 332::cellsA b (dH r a c) 169::stA Q sb s'::F)->h0 la d.length lc H':=by
    intro d la lc s' p' H4 W kk h;refine h9 _ _ _ _ ?_;refine⟨_,h.r 2,_,h.r 1,_,h.r 1,?_⟩;refine h.al λb1 _ h=>?_
    refine h.append (m:=1) (ws:=dw { kind:=1,agent:=r.ag,epoch:=G.2.1.epoch,boot:=G.2.1.boot }) sl39 1 rfl (h.ce_rd 0 rfl) rfl (tX _) (by omega) (by omega) λa5 c5 H5 h=>⟨_,_,_,rfl,?_⟩
    refine kk _ _ _ ?_;rw[gx,show aF dw [({ kind:=1,agent:=r.ag,epoch:=G.2.1.epoch,boot:=G.2.1.boot }:Eff)]=dw { kind:=1,agent:=r.ag,epoch:=G.2.1.epoch,boot:=G.2.1.boot } by simp[aF]];exact h.o [1,4] 5
   refine⟨λhf=>?_,λhf=>?_⟩
   .rw [V1 hf]at k;have E:r.ag.toNat<s.sts.length:=by have:=ok.len;have:=hL.ag;omega
    have fresh:∀(bl:List (Option Nat)) (la:Xa) (lc:Nat) H',bl.map Option.isSome=s.sts.map Option.isSome->(jy s r.ag).length<=1000000->
      aA H' (slA 428 87 la (jy s r.ag).length lc (aF dw (jy s r.ag))::mapA aB ptV p.tm (cQ 0 bl)::mg Q bl s.sts r.ag.toNat::Ma.markC p.mb p.mm (fV s r.ag)::Ma.mapF p.mm (fV s r.ag).m::cellsA T (encE G.2.1) 332::cellsA sb (dI { s with now:=r.nw } p) 314::Ro.rollC p.rb p.rm s.cfg.agents::Ro.mapE p.rm G.1::shC p.hb p.hm s.cfg.cells::cB p.hm s.cm::slA 288 74 p.ka s.kept.length p.kc (aF cW s.kept)::cellsA b (dH r a c) 169::F)->
      yV.r2 sb 0 b h0 la (jy s r.ag).length lc H':=by
     intro bl la lc H4 hm W h;unfold yV.r2;refine⟨_,h.r 6,_,h.r 12,?_⟩;have h:=h.o [6,0,1,2,3,4,5,7,8,9,10,11,12] 13;refine RJ (s:=({ s with now:=r.nw }:aV)) (Q:=Q) ok.cfg h λnb H5 h=>⟨_,rfl,h.r 13,h.r 1,?_⟩
     rw[<-u];refine h.mp_update (α:=Option Nat) (v:=some nb) (x:=((r.ag.toNat:Nat):Int)) rQ ko2 3 rfl λH6 h=>?_
     rw[u];refine⟨_,h.r 1,_,h.r 13,_,h.r 13,?_⟩;have h:=h.o [5,6,0,1,2,3,4,7,8,9,10,11,12,13] 14;refine Ma.Join_spec (a:=r.ag) (t:=r.nw) h λH7 h=>⟨_,rfl,?_⟩
     refine fin (jy s r.ag) la lc { s with now:=r.nw,rows:=G.1,ms:=((fV s r.ag).join r.ag r.nw).1,sts:=s.sts.set r.ag.toNat (some (nv s.cfg)) } p _ W (λC D y h=>?_) ?_
     .have hk:=k C D y;rw[V6]at hk;exact hk h
     .
      have h:=h.o [5,2,6,0,1,3,4,7,8,9,10,11,12,13] 14;rw[<-u]at h;have h:=str_new hm E h;rw[u]at h;have h:=h.o [3,6,7,1,2,8,9,0,10,4,5,11] 12;have h:aA H7 (stA Q sb { s with now:=r.nw,rows:=G.1,ms:=((fV s r.ag).join r.ag r.nw).1,sts:=s.sts.set r.ag.toNat (some (nv s.cfg)) }::_):=dx.2 ⟨p,h⟩;exact h.o [1,2,3,0] 4
    refine⟨_,h.r 2,_,h.r 11,?_⟩;have S:(∃st,s.sts[r.ag.toNat]?=some (some st))\/s.sts[r.ag.toNat]?=some none:=by
     rw[List.getElem?_eq_getElem E]
     cases s.sts[r.ag.toNat] with
     | none=>grind
     | some st=>grind
    rcases S with ⟨st,w⟩|w
    .have f:=ok.sts st (VW w);have h8:=wR hL.ag.1 w;have N:jy s r.ag=(aL st.hs.rows).map (rU r.ag (bE s.rows r.ag).epoch):=by grind [jy]
     have P:fV s r.ag=(s.ms.leave r.ag).1:=by grind [fV]
     have h:=h.o [9,0,1,2,3,4,5,6,7,8,10,11] 12;obtain⟨j2,bl,M,h⟩:=qt h w;have h:=h.o [1,0,2,3,4,5,6,7,8,9,10,11,12,13] 14;obtain⟨cb,hb,h⟩:=gM.1 h;have J:=qu M h 3 rfl;rw[u]at J;refine⟨_,J,?_⟩;intro h5 R;refine⟨λ_=>dX ⟨_,h.r 0,?_⟩,λhn=>V0 hn (by simp)⟩
     have h:=h.o [2,0,1,3,4,5,6,7,8,9,10,11,12,13,14,15] 16;have j3:=f.hs.rows.length;have l0:=f.hs.most2;have j1:st.hs.rows.length<=256:=by omega
     refine zO h f.hs.rows.rising (λq hq=>by
      have h1:=(f.rows q hq).1;have h2:=(f.hs.rows.inb q hq).1;have h3:=f.hs.next0;unfold aG;omega) (by omega) λwa wc H4 h=>⟨_,_,_,rfl,?_⟩
     have l2:(aL st.hs.rows).length=st.hs.rows.length:=by grind
     refine⟨λla B lc i H'=>∃j:Nat,i=j/\j<=st.hs.rows.length/\B=j/\
      aA H' (slA 428 87 la j lc (aF dw (((aL st.hs.rows).take j).map (rU r.ag (bE s.rows r.ag).epoch)))::slA 2 1 wa st.hs.rows.length wc ((aL st.hs.rows).map aB)::mapA aB ptV p.tm (cQ 0 bl)::mg Q bl s.sts r.ag.toNat::cellsA T (encE G.2.1) 332::cellsA bb (encE (bE s.rows r.ag)) 332::cellsA sb (dI { s with now:=r.nw } p) 314::Ro.rollC p.rb p.rm s.cfg.agents::Ro.mapE p.rm G.1::Ma.markC p.mb p.mm s.ms::Ma.mapF p.mm s.ms.m::shC p.hb p.hm s.cfg.cells::cB p.hm s.cm::slA 288 74 p.ka s.kept.length p.kc (aF cW s.kept)::cellsA b (dH r a c) 169::F),
      λ_ _ _ i _=>st.hs.rows.length-i.toNat,⟨0,rfl,by omega,rfl,(h.sl_nil 428 87).o [0,1,5,6,7,8,9,10,11,12,13,14,15,16,17] 18⟩,?_⟩
     rintro la B lc i H5 ⟨j,rfl,hj,rfl,h⟩;refine⟨λhc=>?_,λhc=>?_⟩
     .have E:B<st.hs.rows.length:=by grind
      have L:B<(aL st.hs.rows).length:=by omega
      have Y:=(h.sl_rd 1 rfl).at L;refine⟨by omega,_,_,Y.1,_,Y.2,_,h.r 14,_,h.r 5,?_⟩;refine h.al λb3 _ h=>?_
      refine h.append (m:=1) (ws:=dw (rU r.ag (bE s.rows r.ag).epoch (aL st.hs.rows)[B])) sl39 1 rfl (h.ce_rd 0 rfl) rfl (tX _) (by omega) (by omega) λa5 c5 H7 h=>⟨_,_,_,rfl,?_⟩
      rw[aJ (x:=(B:Int)+1)];refine⟨⟨B+1,by omega,E,rfl,?_⟩,by grind⟩;rw[VU L,VS,gx,show aF dw ([(aL st.hs.rows)[B]].map (rU r.ag (bE s.rows r.ag).epoch))=dw (rU r.ag (bE s.rows r.ag).epoch (aL st.hs.rows)[B]) by simp[aF]];exact h.o [1,2,3,4,5,6,7,8,9,10,11,12,13,14,15] 16
     .have h7:B=st.hs.rows.length:=by grind
      subst h7;rw[VM (by omega),<-N]at h;have Z:(jy s r.ag).length=st.hs.rows.length:=by grind
      refine⟨_,h.r 6,_,h.r 14,?_⟩;have h:=h.o [9,10,0,1,2,3,4,5,6,7,8,11,12,13,14] 15;refine Ma.Leave_spec (a:=r.ag) h λH6 h=>⟨_,rfl,?_⟩
      rw[<-P]at h;refine R _ _ _ _ ?_;rw[<-Z]at h ⊢;exact fresh bl la lc H6 M.m (by omega) (h.o [2,4,5,0,1,6,8,9,10,11,12,13,14] 15)
    .have h8:io s r.ag=none:=by unfold io;grind
     have N:jy s r.ag=[]:=by grind [jy]
     have P:fV s r.ag=s.ms:=by grind [fV]
     refine⟨_,str_nil (h.o [9] 12) (.inr (.inl w)),?_⟩;intro h5 R;refine⟨λhn=>V0 hn (by simp),λ_=>R _ _ _ _ ?_⟩
     have h:=h.o [9,5,6,0,2,3,4,7,8,10,11] 12;obtain⟨bl,hm,h⟩:=lh.1 h;have l1:bl.length=s.sts.length:=by have:=congrArg List.length hm;grind
     have e1:s.sts.set r.ag.toNat none=s.sts:=by
      grind [List.set_getElem_self]
     have e2:bl.set r.ag.toNat none=bl:=by
      have h1:=qr hm r.ag.toNat
      rw[w,List.getElem?_eq_getElem (show r.ag.toNat<bl.length by omega)]at h1;have:bl[r.ag.toNat]=none:=by
       cases e:bl[r.ag.toNat] with
       | none=>rfl
       | some x=>grind
      grind [List.set_getElem_self]
     have hf:=fresh bl none 0 U hm (by grind);rw[N,P]at hf;refine hf ?_;rw[show mg Q bl s.sts r.ag.toNat=strsA Q bl s.sts by grind];exact h.sl_nil 428 87
   .rw [Vz (by grind)]at k;have h:=h.o [2,3,4,5,6,7,8,9,10,0,11] 12;have h:aA U (stA Q sb { s with now:=r.nw,rows:=G.1 }::_):=dx.2 ⟨p,h⟩;refine fin [] none 0 _ p _ (by simp) (λC D y h=>k C D y h) ?_
    exact (h.sl_nil 428 87).o [0,2,3,1] 4
  refine⟨_,h.r 1,_,h.r 10,_,h.r 10,_,h.r 10,?_,?_⟩
  .have h:=h.o [2,3,0,1,4,5,6,7,8,9,10] 11;refine Ro.Grant_spec ok.rows (agent:=r.ag) (boot:=r.bt) (now:=r.nw) h λH2 h=>⟨_,_,_,_,_,rfl,?_⟩
   refine h.al λb4 _ h=>?_
   refine h.st 0 rfl rfl ?_;intro U h;exact A _ _ (h.o [0,3,4,1,2,5,6,7,8,9,10,11] 12)
  .refine h.al λb5 _ h=>⟨h.r 11,h.r 11,h.r 11,h.r 2,?_⟩
   have h:=h.o [3,4,0,1,2,5,6,7,8,9,10,11] 12;refine Ro.Grant_spec ok.rows (agent:=r.ag) (boot:=r.bt) (now:=r.nw) h λH2 h=>⟨_,_,_,_,_,rfl,?_⟩
   refine h.st 2 rfl rfl ?_;intro U h;exact A _ _ (h.o [2,3,4,0,1,5,6,7,8,9,10,11] 12)
 refine⟨_,h.r 0,_,h.r 9,?_,?_⟩
 .have h:=h.o [1,2,0,3,4,5,6,7,8,9] 10;refine Ro.Of_spec ok.rows (agent:=r.ag) h λH2 h=>⟨_,_,_,_,rfl,?_⟩
  refine h.al λb6 _ h=>?_
  refine h.st 0 rfl rfl ?_;intro U h;exact I _ _ (h.o [0,3,1,2,4,5,6,7,8,9,10] 11)
 .refine h.al λb7 _ h=>⟨h.r 10,h.r 1,?_⟩
  have h:=h.o [2,3,0,1,4,5,6,7,8,9,10] 11;refine Ro.Of_spec ok.rows (agent:=r.ag) h λH2 h=>⟨_,_,_,_,rfl,?_⟩
  refine h.st 2 rfl rfl ?_;intro U h;exact I _ _ (h.o [2,3,0,1,4,5,6,7,8,9,10] 11)
end
def ua(s:aV)(r:Rp):aV:=match s.sts[r.ag.toNat]? with
 | some (some st)=>{ s with now:=r.sm.came,ms:=(s.ms.hold r.ag (ke st.ck r.sm).1.held).1,sts:=s.sts.set r.ag.toNat (some { st with ck:=(ke st.ck r.sm).1 }) }
 | _=>s
def ub(s:aV)(r:Rp):aV:=if s.sunk<r.nx then { s with kept:=s.kept.drop (r.nx-s.sunk).toNat,sunk:=r.nx } else s
def cH(s:aV)(r:Rp):aV×List Eff×Int:=
 if r.right=false then (s,[],10) else
 if fB s r≠0 then (s,[],fB s r) else
 if r.kind=1 then ({ s with boots:=s.boots+1 },[],0) else
 if r.kind=2 then jz s r else
 if r.kind=3 then (ua s r,[],0) else
 if r.kind=4 then ((jx s r).1,(jx s r).2,0) else
 if r.kind=5 then (rT s r,[],0) else
 if r.kind=6 then ((lk s r.nw).1,(lk s r.nw).2,0) else
 (ub s r,[],0)
theorem nZ{s:aV}{r:Rp}(ok:dh s)(c:RLim r)(h:fB s r=0)(b:r.kind=3\/r.kind=4\/r.kind=5):∃st,s.sts[r.ag.toNat]?=some (some st):=by
 unfold fB at h;rw[nO,nO]at h;unfold tZ at h;have d:=c.ep.1 b
 split at h
 .simp at h
 .rename_i e;have a:isE s r.ag r.ep=true:=by
   grind
  unfold isE at a;rw[V4]at a;exact (ok.str (V3 a.1)).2
section
variable {F L:List aD}{H:aC}{K KP:KQ}{Q Q':aD}
theorem RK{sb:Nat}{s:aV}{r:Rp}{a:Xa}{c:Nat}{evs:List Ev}(ok:dh s)(hs:s.sunk<=4611686018427387903)(O:s.kept.length<=100000000000)(t:oU Q F r a evs)(h:aA H (Q::stA Q sb s::F))
  (k:∀Q' f i H',aH Q Q'->aA H' (Q'::slA 428 87 f (cH s r).2.1.length i (aF dw (cH s r).2.1)::stA Q' sb (cH s r).1::F)->K (.tuple #[.slice f (cH s r).2.1.length i,aB (cH s r).2.2]) H') :
  CF 149 #[PA sb 0,.agg ⟨dH r a c⟩] H K:=by
 have h8:r.evs.length=evs.length:=by rw[t.eq,VP]
 refine cN 149 0x1d21b21517413c17111413c17413c17171499c [[],[],[],[],[]] ?_;refine h.al λb H0 h=>⟨_,_,_,_,_,_,_,_,_,_,_,_,_,_,h.q 0,?_⟩
 unfold cH at k;refine Iz t.eq h ⟨λH h=>t.rd H h.tl.tl.tl,λe he H h=>(t.labs e he).at h 1 rfl⟩ (by have:=t.len;omega) λH1 h=>⟨_,rfl,λT=>?_,λT=>?_⟩
 .rw [V1 (by grind)]at k;have h:=h.o [1,2] 3;exact k Q none 0 _ (aH.refl Q) ((h.sl_nil 428 87).o [1,0,2] 3)
 have Y:r.right=true:=by grind
 have w:=lm Y;rw[Vz (by grind)]at k;have h:=h.o [2,0,1] 3;refine⟨_,_,_,_,_,_,_,_,_,_,_,_,_,_,h.q 1,?_⟩;refine RH ok hs O Y h λH2 h=>⟨_,rfl,λT=>?_,λT=>?_⟩
 .rw [V1 (by grind)]at k;have h:=h.o [0,2] 3;exact k Q none 0 _ (aH.refl Q) ((h.sl_nil 428 87).o [2,0,1] 3)
 have y:fB s r=0:=by grind
 rw[Vz (by grind)]at k;refine⟨_,h.r 1,?_⟩;intro Jn hJ;have fin:∀(s':aV) H',(∀Q' f i H',aH Q Q'->aA H' (Q'::slA 428 87 f 0 i []::stA Q' sb s'::F)->K (.tuple #[.slice f 0 i,aB 0]) H')->aA H' (stA Q sb s'::Q::F)->Jn H':=by
  intro s' H' kk h;refine hJ _ ?_;exact kk Q none 0 _ (aH.refl Q) ((h.sl_nil 428 87).o [2,0,1] 3)
 refine⟨λd=>?_,λd=>?_⟩
 .have d:=V3 d;rw[V1 d]at k;obtain⟨p,h⟩:=dx.1 h;refine⟨_,h.r 0,?_⟩;refine h.st 0 rfl rfl ?_;intro u h;have hb:=ok.boots;rw[aJ (x:=s.boots+1)]at h;have h:=h.o [0,1,2,3,4,5,6,7,8,10] 11;have h:aA u (stA Q sb { s with boots:=s.boots+1 }::_):=dx.2 ⟨p,h⟩;exact fin _ _ k h
 have h2:=V2 d;rw[Vz h2]at k;refine⟨λd=>?_,λd=>?_⟩
 .have C:=V3 d;rw[V1 C]at k;refine⟨_,_,_,_,_,_,_,_,_,_,_,_,_,_,h.q 1,?_⟩;refine Grant_spec ok Y C h λf i u h=>⟨_,_,_,_,rfl,?_⟩
  exact k Q f i u (aH.refl Q) (h.o [3,0,1] 4)
 have C:=V2 d;rw[Vz C]at k;intro Z S;have D:∀(s':aV) H',(∀Q' f i H',aH Q Q'->aA H' (Q'::slA 428 87 f 0 i []::stA Q' sb s'::F)->K (.tuple #[.slice f 0 i,aB 0]) H')->aA H' (stA Q sb s'::Q::F)->Z H':=by
  intro s' H' kk h;refine S _ ?_;exact fin s' H' kk h
 refine⟨λd=>?_,λd=>?_⟩
 .have B:=V3 d;rw[V1 B]at k;obtain⟨st,m⟩:=nZ ok w y (.inl B);unfold ua at k;rw[m]at k;dsimp only at k;have P:=ok.sts st (VW m);have R:((r.ag.toNat:Nat):Int)=r.ag:=by have:=w.ag;omega
  obtain⟨p,h⟩:=dx.1 h;have h:=h.o [7,0,1,2,3,4,5,6,8,9,10] 11;obtain⟨h0,bl,I,h⟩:=qt h m;have h:=h.o [1,0,2,3,4,5,6,7,8,9,10,11,12] 13;obtain⟨cb,hb,h⟩:=gM.1 h;have E:=qu I h 3 rfl;rw[R]at E;refine⟨_,h.r 5,_,h.r 13,_,E,⟨_,h.rd 0 rfl 0,_,_,_,_,h.q 13,?_⟩⟩;have h:=h.o [1,0,2,3,4,5,6,7,8,9,10,11,12,13,14] 15;refine PD (s:=r.sm) P.ck h λu h=>⟨_,rfl,_,h.r 5,_,h.rd 13 rfl _,⟨_,h.rd 1 rfl 0,_,tI h,?_⟩⟩
  have h:=h.o [8,9,0,1,2,3,4,5,6,7,10,11,12,13,14] 15;refine Ma.Hold_spec (a:=r.ag) (v:=(ke st.ck r.sm).1.held) h λH4 h=>⟨_,rfl,_,h.r 13,?_⟩
  refine h.st 7 rfl rfl ?_;intro H5 h;refine D _ _ k ?_;have h:=h.o [3,2,4,5,6,7,8,9,0,1,10,11,12,14] 15;have h:aA H5 (strA Q h0 { st with ck:=(ke st.ck r.sm).1 }::_):=gM.2 ⟨cb,hb,h⟩;have h:=h.o [1,0,2,3,4,5,6,7,8,9,10,11] 12;have h:=rR I h;exact dx.2 ⟨p,h.o [1,2,3,4,5,6,7,0,8,9] 10⟩
 have B:=V2 d;rw[Vz B]at k;refine⟨λd=>?_,λd=>?_⟩
 .have n:=V3 d;rw[V1 n]at k;obtain⟨st,m⟩:=nZ ok w y (.inr (.inl n));have hb:=w.evs n;unfold kv at hb;simp only[V4,V5,VK]at hb;refine⟨_,_,_,_,_,_,_,_,_,_,_,_,_,_,h.q 1,?_⟩;have h:=h.o [2,0,1] 3;refine RA (evs:=evs) ok w.ag.1 m ⟨t.eq,λH h=>t.rd H h.tl,t.labs,t.len,t.vals⟩ (λe he=>hb.2.2 e he) (by omega) h λQ2 f i u V h=>⟨_,_,_,rfl,?_⟩
  exact k Q2 f i u V (h.o [0,1,2] 4)
 have n:=V2 d;rw[Vz n]at k;intro h5 h3;have G:∀(s':aV) H',(∀Q' f i H',aH Q Q'->aA H' (Q'::slA 428 87 f 0 i []::stA Q' sb s'::F)->K (.tuple #[.slice f 0 i,aB 0]) H')->aA H' (stA Q sb s'::Q::F)->h5 H':=by
  intro s' H' kk h;refine h3 _ ?_;exact D s' H' kk h
 refine⟨λd=>?_,λd=>?_⟩
 .have A:=V3 d;rw[V1 A]at k;obtain⟨st,m⟩:=nZ ok w y (.inr (.inr A));refine⟨_,_,_,_,_,_,_,_,_,_,_,_,_,_,h.q 1,?_⟩;refine RG ok w.ag.1 m h λu h=>⟨rfl,G _ _ k (h.o [0,2] 3)⟩
 have A:=V2 d;rw[Vz A]at k;refine⟨λd=>?_,λd=>?_⟩
 .have L:=V3 d;rw[V1 L]at k;refine⟨_,h.r 1,?_⟩;refine Tick_spec ok hs O h λf i u h=>⟨_,_,_,rfl,?_⟩
  exact k Q f i u (aH.refl Q) (h.o [3,0,1] 4)
 have L:=V2 d;rw[Vz L]at k;intro U h4;have N:∀(s':aV) H',(∀Q' f i H',aH Q Q'->aA H' (Q'::slA 428 87 f 0 i []::stA Q' sb s'::F)->K (.tuple #[.slice f 0 i,aB 0]) H')->aA H' (stA Q sb s'::Q::F)->U H':=by
  intro s' H' kk h;refine h4 _ ?_;exact G s' H' kk h
 have h1:r.kind=7:=by have:=w.kind;omega
 refine⟨λ_=>?_,λd=>V0 h1 (V2 d)⟩
 obtain⟨p,h⟩:=dx.1 h;refine⟨_,h.r 9,_,h.r 0,?_⟩;intro h6 W;have J:∀(s':aV) H',(∀Q' f i H',aH Q Q'->aA H' (Q'::slA 428 87 f 0 i []::stA Q' sb s'::F)->K (.tuple #[.slice f 0 i,aB 0]) H')->aA H' (stA Q sb s'::Q::F)->h6 H':=by
  intro s' H' kk h;refine W _ ?_;exact N s' H' kk h
 unfold ub at k;refine⟨λd=>?_,λd=>?_⟩
 .have d:=V3 d;rw[V1 d]at k;have M:r.nx<=s.next:=by
   unfold fB at y
   grind
  have M:r.nx<=s.sunk+(s.kept.length:Int):=M;have h9:=ok.sunk;have h7:=w.nx;have hw:i64.wrap (r.nx-s.sunk)=((r.nx-s.sunk).toNat:Nat):=by grind [aJ]
  refine⟨_,_,_,h.r 0,_,h.r 9,_,h.r 0,?_⟩;dsimp only
  conv=>whnf
  rw[hw];have h:=h.o [8,0,1,2,3,4,5,6,7,9,10] 11;refine QX (j:=(r.nx-s.sunk).toNat) (by omega) h λu h=>⟨_,_,_,rfl,?_⟩
  refine h.st 1 rfl rfl ?_;intro H4 h;refine⟨_,h.r 9,?_⟩;refine h.st 1 rfl rfl ?_;intro H5 h;refine J _ _ k ?_;refine dx.2 ⟨p,?_⟩;have e:(s.kept.drop (r.nx-s.sunk).toNat).length=s.kept.length-(r.nx-s.sunk).toNat:=Wb ..;simp only[dI,e];exact h.o [1,2,3,4,5,6,7,8,0,10] 11
 .rw [Vz (V2 d)]at k;refine J _ _ k (dx.2 ⟨p,h.o [0,1,2,3,4,5,6,7,8,10] 11⟩)
end
section
variable {α:Type}
theorem Jc{next most B:Int}:∀{l:List α} {n:Int} {s:cx α×Int},(∀p∈s.1,p.1<B)->n+l.length<=B->∀p∈(eD next most n l s).1,p.1<B
 | [],n,s,h,_=>h
 | v::vs,n,s,h,hn=>by
  rw[VA]at hn;refine Jc (l:=vs) (λp a=>?_) (by omega)
  unfold dS at a
  split at a
  .grind
  .split at a
   .grind
   .rcases tn.1 a with rfl|a
    .grind
    grind
theorem pop_le{B:Int}:∀{l:cx α} {next:Int},next<=B->(∀p∈l,p.1<B)->(pop next l).2.1<=B
 | [],next,h,_=>h
 | (n,v)::r,next,h,hl=>by
  unfold pop
  split
  .rename_i e;have:=hl _ (VI ..);exact pop_le (l:=r) (next:=next+1) (by grind) λp a=>hl p (VF _ a)
  .exact h
theorem offer_lt{s:HS α}{first B:Int}{items:List α}(c:s.next<=B)(d:∀p∈s.rows,p.1<B)(a:first+items.length<=B) :
  (s.offer first items).1.next<=B/\∀p∈(s.offer first items).1.rows,p.1<B:=by
 unfold HS.offer
 split
 .grind
 .have h:=Jc (next:=s.next) (most:=s.most) (l:=items) (n:=first) (s:=(s.rows,0)) d a;exact⟨pop_le c h,λp b=>h p (zN.2 p b)⟩
end
theorem Jd(ms:MS)(a t:Int):(ms.raise a t).1.lag=ms.lag:=by
 grind [MS.raise]
theorem hold_lag(ms:MS)(a:Int)(b:Bool):(ms.hold a b).1.lag=ms.lag:=by
 grind [MS.hold]
theorem RM(ms:MS)(a:Int):(ms.leave a).1.lag=ms.lag:=by
 grind [MS.leave]
theorem join_lag(ms:MS)(a t:Int):(ms.join a t).1.lag=ms.lag:=by
 grind [MS.join]
theorem tick_lag(ms:MS)(t:Int):(ms.tick t).1.lag=ms.lag:=by
 grind [MS.tick]
theorem Je{c:Cfg}{now a:Int}{st:Str}{ms:MS}{cm:CM}{e:Pv}(h:MOk ms):MOk (dN c now a st ms cm e).ms/\(dN c now a st ms cm e).ms.lag=ms.lag:=by
 have d:=h.raise a (cJ st.ck (bQ ms a) now e.stamp).1.lo;have b:=Jd ms a (cJ st.ck (bQ ms a) now e.stamp).1.lo;unfold dN
 grind
theorem Jf{c:Cfg}{now a ep first:Int}{evs:List Pv}{x:JS}(h:MOk x.ms)(f:-1<=x.st.last/\x.st.last<=4611686018427387903)(i:∀e∈evs,jv e=true):∀n,n<=evs.length->
  MOk (dE c now a ep first evs x n).1.ms/\(dE c now a ep first evs x n).1.ms.lag=x.ms.lag/\-1<=(dE c now a ep first evs x n).1.st.last/\(dE c now a ep first evs x n).1.st.last<=4611686018427387903
 | 0,_=>⟨h,rfl,f⟩
 | n+1,hn=>by
  have d:=Jf (c:=c) (now:=now) (a:=a) (ep:=ep) (first:=first) h f i n (by omega);have j:=IZ c now a (dE c now a ep first evs x n).1.st (dE c now a ep first evs x n).1.ms (dE c now a ep first evs x n).1.cm (evs.getD n Pv.z);have hm:=Je (c:=c) (now:=now) (a:=a) (st:=(dE c now a ep first evs x n).1.st) (cm:=(dE c now a ep first evs x n).1.cm) (e:=evs.getD n Pv.z) d.1;have b:jv (evs.getD n Pv.z)=true:=by rw[wh _ (by omega)];exact i _ (V7 _)
  unfold jv at b;simp only[V4,V5]at b;refine⟨hm.1,hm.2.trans d.2.1,?_⟩;show -1<=(dN c now a _ _ _ _).st.last/\(dN c now a _ _ _ _).st.last<=_
  rcases j.2.2 with e|e
  .rw [e];exact d.2.2
  .rw [e];omega
theorem dh.setStr{s:aV}(ok:dh s){k:Nat}{st a:Str}{now:Int}{ms:MS}{cm:CM}(i:s.sts[k]?=some (some st))(h:isT now)(f:MOk ms)(c:ms.lag=s.ms.lag)(d:eT s.cfg.cells cm)(e:qw s.cfg a) :
  dh { s with now:=now,ms:=ms,cm:=cm,sts:=s.sts.set k (some a) }:=by
 have m:k<s.sts.length:=(List.getElem?_eq_some_iff.1 i).1;refine⟨ok.cfg,h,ok.boots,ok.sunk,ok.rows,f,c.trans ok.lag,d,?_,λx b=>?_,λj=>?_,ok.kept⟩
 .show (s.sts.set k _).length=64;rw[List.length_set,ok.len]
 .rcases WW b with b|b
  .exact ok.sts x b
  .cases b;exact e
 .rw [<-ok.reg j]
  grind
theorem dh.upd{s:aV}(ok:dh s){now:Int}{ms:MS}{cm:CM}{kept:List Ot}{sunk boots:Int}(e:isT now)(d:MOk ms)(a:ms.lag=s.ms.lag)(b:eT s.cfg.cells cm)(c:∀o∈kept,WC o.2)(h:0<=sunk)(f:0<=boots/\boots<=1099511627776) :
  dh { s with now:=now,ms:=ms,cm:=cm,kept:=kept,sunk:=sunk,boots:=boots }:=
 ⟨ok.cfg,e,f,h,ok.rows,d,a.trans ok.lag,b,ok.len,ok.sts,ok.reg,c⟩
theorem wS{most:Int}{m:CM}(h:eT most m):∀o∈bP m,WC o.2:=by
 intro o a;unfold bP at a;obtain⟨k,_,rfl⟩:=V8.1 a;exact h.cell k
theorem RN{c:Cfg}(h:qv c):qw c (nv c) where
 ck:=⟨by simp[nv],λs hs=>V0 hs (by simp[nv]),by show (0:Int)<=0/\(0:Int)<=9223372036854775807;decide⟩
 rho:=rfl
 least:=rfl
 hs:=⟨by show (0:Int)<=0;decide,h.hd.1,h.hd.2,⟨by simp[nv,gw],λp a=>V0 a (by simp[nv])⟩⟩
 most:=rfl
 next:=by show (0:Int)<=_;decide
 rows:=λp a=>V0 a (by simp[nv])
 last:=by show (-1:Int)<=-1/\(-1:Int)<=4611686018427387903;decide
theorem RP(c:Ck)(s:Smp):(ke c s).1.rho=c.rho/\(ke c s).1.least=c.least:=by
 unfold ke
 grind
theorem batch_ok{s:aV}{r:Rp}(ok:dh s)(n:RLim r)(A:r.kind=4){st:Str}(f:s.sts[r.ag.toNat]?=some (some st))(E:∀e∈r.evs,aG e.value):dh (jx s r).1:=by
 have b:=ok.sts st (VW f);have hb:=n.evs A;unfold kv at hb;simp only[V4,V5,VK]at hb;obtain⟨⟨u,D⟩,⟨⟨C,y⟩,v⟩,w⟩:=hb;have t:=HS.offer_ok b.hs r.nx r.evs;have hm:=wy (s:=st.hs) (first:=r.nx) (items:=r.evs);have m:=offer_lt (s:=st.hs) (first:=r.nx) (B:=1099511627776) (items:=r.evs) b.next (λp k=>(b.rows p k).1) (by omega)
 unfold jx;rw[f];dsimp only;unfold oT;generalize st.hs.offer r.nx r.evs=O at *;have good:∀e∈O.2.1,jv e=true/\aG e.value:=by
  intro e j
  rcases hm.1 e j with h|⟨q,h,rfl⟩
  .grind
  .exact (b.rows q h).2
 have d:=Ab (c:=s.cfg) (now:=r.nw) (a:=r.ag) (ep:=r.ep) (first:=st.hs.next) (evs:=O.2.1) (x:=⟨{ st with hs:=O.1 },s.ms,s.cm⟩) ok.sh (λe j=>(good e j).2) O.2.1.length (VD _)
 have i:=Jf (c:=s.cfg) (now:=r.nw) (a:=r.ag) (ep:=r.ep) (first:=st.hs.next) (evs:=O.2.1) (x:=⟨{ st with hs:=O.1 },s.ms,s.cm⟩) ok.ms b.last (λe j=>(good e j).1) O.2.1.length (VD _)
 generalize dE s.cfg r.nw r.ag r.ep st.hs.next O.2.1 ⟨{ st with hs:=O.1 },s.ms,s.cm⟩ O.2.1.length=G at *;refine ok.setStr f n.nw i.1 i.2.1 d.1 ⟨by rw[d.2.1];exact b.ck,by rw[d.2.1];exact b.rho,by rw[d.2.1];exact b.least,by rw[d.2.2.1];exact t.1,by rw[d.2.2.1];exact t.2.2.2.trans b.most,by grind,?_,i.2.2⟩;rw[d.2.2.1];intro p k;refine⟨m.2 p k,?_⟩
 rcases hm.2 p k with h|h
 .grind
 .exact (b.rows p h).2
theorem Jg{most:Int}{rows:List En}(c:gL rows)(a b n:Int) :
  ((cG most rows a b n).2.2.1=true/\(cG most rows a b n).1=rows.set a.toNat (cG most rows a b n).2.1/\0<(cG most rows a b n).2.1.epoch/\(cG most rows a b n).2.2.2=0/\(cG most rows a b n).2.1.epoch=(bE rows a).epoch+1)\/
  ((cG most rows a b n).2.2.1=false/\(cG most rows a b n).1=rows/\((cG most rows a b n).2.2.2=0->(cG most rows a b n).2.1=bE rows a/\0<(bE rows a).epoch)):=by
 have d:=(c.at a).1;unfold cG
 grind
theorem oldM_ok{s:aV}(ok:dh s)(a:Int):MOk (fV s a)/\(fV s a).lag=s.ms.lag:=by
 unfold fV
 split
 .exact⟨ok.ms.leave a,RM _ _⟩
 .exact⟨ok.ms,rfl⟩
theorem RQ{s:aV}{r:Rp}(ok:dh s)(b:RLim r):dh (jz s r).1:=by
 have h:=Jg (most:=s.cfg.agents) ok.rows r.ag r.bt r.nw;have d:=grant_ok (most:=s.cfg.agents) ok.rows r.ag r.bt r.nw;have i:=oldM_ok ok r.ag;unfold jz
 split
 .exact ok
 split
 .rename_i c
  rcases h with ⟨-,g2,g3,g4,-⟩|⟨g1,_⟩
  .have k:r.ag.toNat<s.sts.length:=by rw[ok.len];have:=b.ag;omega
   have f:r.ag.toNat<s.rows.length:=by rw[ok.rows.len];have:=b.ag;omega
   refine⟨ok.cfg,b.nw,ok.boots,ok.sunk,d,i.1.join _ _,(join_lag _ _ _).trans (i.2.trans ok.lag),ok.sh,?_,λx a=>?_,λj=>?_,ok.kept⟩
   .show (s.sts.set _ _).length=64;rw[List.length_set,ok.len]
   .rcases WW a with a|a
    .exact ok.sts x a
    .cases a;exact RN ok.cfg
   .dsimp only;rw[g2]
    by_cases e:j=r.ag.toNat
    .simp_all
    .rw [List.getElem?_set_ne (by omega),List.getElem?_set_ne (by omega)];exact ok.reg j
  .rw [g1]at c;cases c
 .rename_i c
  rcases h with ⟨g1,_⟩|⟨-,g2,_⟩
  .exact V0 g1 c
  .dsimp only;rw[g2];exact ok.upd (kept:=s.kept) (sunk:=s.sunk) (boots:=s.boots) b.nw ok.ms rfl ok.sh ok.kept ok.sunk ok.boots
theorem Ac{m:CM}{b:Int}{o:Ot}(h:o∈iy m b):o∈bP m:=(List.takeWhile_sublist _).subset h
theorem apply_ok{s:aV}{r:Rp}(ok:dh s)(m:∀e∈r.evs,aG e.value):dh (cH s r).1:=by
 unfold cH
 split
 .exact ok
 rename_i j;have j:r.right=true:=by grind
 have c:=lm j
 split
 .exact ok
 rename_i d;have d:fB s r=0:=by grind
 split
 .rename_i h;have hb:s.boots<1099511627776:=by
   unfold fB at d
   grind
  exact ok.upd (now:=s.now) (kept:=s.kept) (sunk:=s.sunk) (boots:=s.boots+1) ok.now ok.ms rfl ok.sh ok.kept ok.sunk (by have:=ok.boots;omega)
 split
 .exact RQ ok c
 split
 .rename_i h;obtain⟨st,b⟩:=nZ ok c d (.inl h);have a:=ok.sts st (VW b);unfold ua;rw[b];have k:=RP st.ck r.sm;have i:=c.sm;unfold Smp.ok at i;exact ok.setStr b i.2.2.2.1 (ok.ms.hold _ _) (hold_lag _ _ _) ok.sh ⟨ckAdd_ok a.ck r.sm,k.1.trans a.rho,k.2.trans a.least,a.hs,a.most,a.next,a.rows,a.last⟩
 split
 .rename_i h;obtain⟨st,b⟩:=nZ ok c d (.inr (.inl h));exact batch_ok ok c h b m
 split
 .rename_i h;obtain⟨st,b⟩:=nZ ok c d (.inr (.inr h));have a:=ok.sts st (VW b);have same:=ok.upd (now:=r.nw) (kept:=s.kept) (sunk:=s.sunk) (boots:=s.boots) c.nw ok.ms rfl ok.sh ok.kept ok.sunk ok.boots;unfold rT;rw[b];dsimp only
  split
  .exact same
  split
  .exact same
  .have:=c.st;exact ok.setStr b c.nw (ok.ms.raise _ _) (Jd _ _ _) ok.sh ⟨a.ck,a.rho,a.least,a.hs,a.most,a.next,a.rows,by grind⟩
 split
 .unfold lk;exact ok.upd (sunk:=s.sunk) (boots:=s.boots) c.nw (ok.ms.tick _) (tick_lag _ _) (R4 ok.sh) (λo f=>by
   rcases VJ.1 f with f|f
   .exact ok.kept o f
   .exact wS ok.sh o (Ac f)) ok.sunk ok.boots
 .unfold ub
  split
  .exact ok.upd (now:=s.now) (boots:=s.boots) ok.now ok.ms rfl ok.sh (λo f=>ok.kept o (W3 f)) c.nx.1 ok.boots
  .exact ok
def iZ(c:Cfg):Bool:=decide c.gd.ok&&decide (1<=c.lag/\c.lag<=1099511627776)&&decide (iT c.rho/\0<=c.trust/\c.trust<=100)&&decide (1<=c.agents/\c.agents<=64)&&decide (1<=c.cells/\c.cells<=1024)&&decide (1<=c.hold/\c.hold<=256)
theorem wT{c:Cfg}(h:iZ c=true):qv c:=by
 unfold iZ at h;simp only[V4,V5]at h;obtain⟨⟨⟨⟨⟨d,b⟩,a⟩,f⟩,i⟩,e⟩:=h;exact⟨d,b,a,f,i,e⟩
def cR(c:Cfg):aV:=⟨c,0,0,0,List.replicate 64 En.z,MS.new c.lag,[],List.replicate 64 none,[]⟩
theorem newS_ok{c:Cfg}(h:qv c):dh (cR c) where
 cfg:=h
 now:=by show isT 0;decide
 boots:=by show (0:Int)<=0/\(0:Int)<=1099511627776;decide
 sunk:=by show (0:Int)<=0;decide
 rows:=Rj
 ms:=MOk.new h.lag.1 h.lag.2
 lag:=rfl
 sh:=⟨h.cl.1,h.cl.2,by simp[cR],λp a=>V0 a (by simp[cR]),λp a=>V0 a (by simp[cR]),λp a=>V0 a (by simp[cR]),by have:=h.cl;grind [cR]⟩
 len:=by simp[cR]
 sts:=λst hs=>by
  have:=List.eq_of_mem_replicate hs
  cases this
 reg:=λk=>by
  unfold cR;dsimp only;rw[List.getElem?_replicate,List.getElem?_replicate]
  by_cases hk:k<64
  .rw [V1 hk,V1 hk]
   grind [En.z]
  grind
 kept:=λo b=>V0 b (by simp[cR])
structure AgR where
 en:En
 fl:Fl
 last:Int
 next:Int
 wait:Int
 smps:Int
def AgR.z:AgR:=⟨En.z,Fl.z,0,0,0,0⟩
abbrev encA(x:AgR):Xb:=[aB x.en.epoch,aB x.en.boot,aB x.en.time,aB x.fl.t,.bool x.fl.out,.bool x.fl.was,.bool x.fl.held,aB x.last,aB x.next,aB x.wait,aB x.smps]
def j0(s:aV)(a:Int):AgR×Bool:=if 0<(bE s.rows a).epoch then (match io s a with
 | some st=>(⟨bE s.rows a,bQ s.ms a,st.last,st.hs.next,(st.hs.rows.length:Nat),(st.ck.smps.length:Nat)⟩,true)
 | none=>(AgR.z,true)) else (AgR.z,false)
section
variable {F L:List aD}{H:aC}{K KP:KQ}{Q Q':aD}
def eN(p:Prop)[Decidable p]:Int:=if p then 0 else 11
theorem uc{p:Prop}[Decidable p](h:p):eN p=0:=V1 h
theorem ud{p:Prop}[Decidable p](h:¬p):eN p=11:=Vz h
theorem jO(h:aA H F):aA H (emp::F):=by
 unfold aA at *;simpa[star,nL] using h
theorem MarkE{lag:Int}(h:aA H F)(k:∀p H',aA H' F->K (.tuple #[.pointer p,aB (eN (1<=lag/\lag<=1099511627776))]) H'):CF 223 #[aB lag] H K:=by
 refine Ma.New_spec h (λc=>?_) λb a mb rb H' h=>?_
 .have:=k none H h;rw[ud (by omega)]at this;exact this
 .have:=k (some ⟨mb,0,none⟩) H' h.tl.tl;rw[uc ⟨b,a⟩]at this;exact this
theorem ClockE{rho least:Int}(h:aA H F)(k:∀p H',aA H' F->K (.tuple #[.pointer p,aB (eN (iT rho/\0<=least/\least<=100))]) H'):CF 224 #[aB rho,aB least] H K:=by
 refine ET h (λa=>?_) λc b H' h=>?_
 .have:=k none H h;rw[ud a]at this;exact this
 .have:=k (some ⟨b,0,none⟩) H' h.tl;rw[uc c]at this;exact this
theorem RollE{most:Int}(h:aA H F)(k:∀p H',aA H' F->K (.tuple #[.pointer p,aB (eN (1<=most/\most<=64))]) H'):CF 225 #[aB most] H K:=by
 refine Ro.New_spec h (λa=>?_) λb rb mb H' h=>?_
 .have:=k none H h;rw[ud (by omega)]at this;exact this
 .have:=k (some ⟨rb,0,none⟩) H' h.tl.tl;rw[uc (by omega)]at this;exact this
theorem ShelfE{most:Int}(h:aA H F)(k:∀p H',aA H' F->K (.tuple #[.pointer p,aB (eN (1<=most/\most<=1024))]) H'):CF 226 #[aB most] H K:=by
 refine Gi h (λa=>?_) λrb mb H' ok h=>?_
 .have:=k none H h;rw[ud (by omega)]at this;exact this
 .have:=k (some ⟨rb,0,none⟩) H' h.tl.tl;rw[uc ⟨ok.m1,ok.m2⟩]at this;exact this
theorem HoldE{most:Int}(h:aA H F)(k:∀p H',aA H' F->K (.tuple #[.pointer p,aB (eN (1<=most/\most<=256))]) H'):CF 227 #[aB 0,aB most] H K:=by
 refine Iv (Q:=emp) h (λa=>?_) λhb H' b h=>?_
 .have:=k none H h;rw[ud (by omega)]at this;exact this
 .have:=k (some ⟨hb,0,none⟩) H' h.tl;rw[uc (by omega)]at this;exact this
theorem eq138{a b c d e f:Int}:fH Tryz.prog .eql 398 (.agg #[aB a,aB b,aB c,aB d,aB e,aB f]) (.agg #[aB 0,aB 0,aB 0,aB 0,aB 0,aB 0])
  (decide (a=0)&&decide (b=0)&&decide (c=0)&&decide (d=0)&&decide (e=0)&&decide (f=0)):=by
 have h:=(tz (P:=Tryz.prog) (t:=398) (xs:=[aB a,aB b,aB c,aB d,aB e,aB f]) (ys:=[aB 0,aB 0,aB 0,aB 0,aB 0,aB 0])
  (r:=(a == 0&&(b == 0&&(c == 0&&(d == 0&&(e == 0&&(f == 0&&true))))))) (by kernel_rfl)).1
 have e:(a == 0&&(b == 0&&(c == 0&&(d == 0&&(e == 0&&(f == 0&&true))))))=(decide (a=0)&&decide (b=0)&&decide (c=0)&&decide (d=0)&&decide (e=0)&&decide (f=0)):=by
  grind
 rw[e]at h;exact h
theorem eN0(p:Prop)[Decidable p]:decide (eN p=0)=decide p:=by
 grind [eN]
theorem Ad{c:Cfg}(h:aA H F)(k:∀H',aA H' F->K (.bool (iZ c)) H'):CF 139 #[.agg ⟨qq c⟩] H K:=by
 refine cM 139 286331164 ?_;refine h.al λb _ h=>⟨_,h.r 0,_,h.r 0,_,h.r 0,?_⟩
 refine EP (g:=c.gd) h λH2 h=>⟨_,_,_,_,rfl,?_⟩
 refine h.al λb1 _ h=>?_
 refine h.st 0 rfl rfl ?_;intro n h;refine⟨_,h.r 1,MarkE h λp1 f h=>⟨_,_,rfl,_,h.r 1,_,h.r 1,ClockE h λp2 j h=>⟨_,_,rfl,_,h.r 1,RollE h λp3 i h=>⟨_,_,rfl,_,h.r 1,ShelfE h λp4 m h=>⟨_,_,rfl,_,h.r 1,HoldE h λp5 d h=>⟨_,_,rfl,_,eq138,?_⟩⟩⟩⟩⟩⟩
 have e:iZ c=(decide ((if c.gd.ok then (0:Int) else 11)=0)&&decide (eN (1<=c.lag/\c.lag<=1099511627776)=0)&&decide (eN (iT c.rho/\0<=c.trust/\c.trust<=100)=0)&&decide (eN (1<=c.agents/\c.agents<=64)=0)&&decide (eN (1<=c.cells/\c.cells<=1024)=0)&&decide (eN (1<=c.hold/\c.hold<=256)=0)):=by
  have a:=eN0 c.gd.ok;unfold eN at a;rw[a,eN0,eN0,eN0,eN0,eN0];rfl
 rw[<-e];exact k _ h.tl.tl
theorem RR{c:Cfg}(h:aA H F)(k1:iZ c=false->∀H',aA H' F->K (.tuple #[.pointer none,aB 11]) H')(k2:iZ c=true->∀sb H',aA H' (stA Q sb (cR c)::F)->K (.tuple #[PA sb 0,aB 0]) H') :
  CF 143 #[.agg ⟨qq c⟩] H K:=by
 refine cM 143 487657756 ?_;refine h.al λb _ h=>⟨_,_,_,_,_,_,_,_,_,h.q 0,?_⟩
 refine Ad (c:=c) h λm h=>⟨_,rfl,λi=>?_,λi=>?_⟩
 .exact k1 (by grind) _ h.tl
 have d:iZ c=true:=by grind
 have ok:=wT d;refine⟨_,_,_,_,_,_,_,_,_,h.q 0,?_⟩;refine h.alm aB ptV λtm _ h=>?_
 refine h.al λsb _ h=>⟨_,h.r 2,_,h.r 2,_,h.r 2,?_⟩
 refine EP (g:=c.gd) h λH2 h=>⟨_,_,_,_,rfl,?_⟩
 rw[V1 ok.gd];refine h.st 0 rfl rfl ?_;intro v h;refine⟨_,h.r 2,Ro.New_spec h (λa=>V0 ok.ag (by omega)) λ_ rb rm n h=>⟨_,_,rfl,?_⟩⟩
 refine h.st 2 rfl rfl ?_;intro t h;refine⟨_,h.r 4,Ma.New_spec h (λa=>V0 ok.lag (by omega)) λ_ _ mb mm s h=>⟨_,_,rfl,?_⟩⟩
 refine h.st 4 rfl rfl ?_;intro u h;refine⟨_,h.r 6,Gi h (λa=>V0 ok.cl (by omega)) λhb hm k _ h=>⟨_,_,rfl,?_⟩⟩
 refine h.st 6 rfl rfl ?_;intro f h;refine k2 d sb _ (dx.2 ⟨⟨rb,rm,mb,mm,hb,hm,tm,none,0⟩,?_⟩);have h:=(h.sl_nil 288 74).o [8,0,7,5,6,3,4,1,2] 10;have j:aA f (strmA Q tm (List.replicate 64 none)::_):=lh.2 ⟨List.replicate 64 none,by simp,by
  rw[zY];have e:cQ 0 (List.replicate 64 (none:Option Nat))=[]:=by decide
  rw[e];have:=jO h;exact this.o [1,0] 2⟩
 exact j.o [2,3,4,5,6,7,8,0,1] 9
end
end Go.Proofs.YtnjaappmhadfdaaGreatDoor
