/-
  Lemmas for GateRecovers: part 2 of what it rests on. Conditions: none.
-/
import Derived.Test.YtaaieblnikcndaaGreatDoorGR1
set_option linter.unusedVariables false
set_option linter.unusedSimpArgs false
set_option maxRecDepth 100000
set_option maxHeartbeats 16000000
open Go.IntKind (i64 u64 i8 u8 i32 u32 i16 u16)
namespace Go.Proofs.YtaaieblnikcndaaGreatDoor
open Go
open Go Go.ChangeShapes Go.WideShapes Go.ChangeAt Go.RowKit
section
variable {H:Type}{enc:TypeId×Value->H}{P:Program}
theorem NK{f:Func}{s:ChangeSpec}{apart u e m:Bool}{W w:World}{args:Array Value}{v:Value}{ds gs:List (DataW H)}{a pa pv:List MemPlace}
  (B:DataW.Whole enc P f.params.toList s.vars apart W args.toList ds gs a)
  (k:∀(b:Nat) (n:Nat->Bool) (hd:Bool),DataW.TrodAll enc P w b n hd f.resultTypes.toList (v.resultList f.resultTypes.size) (s.fn H (ds++gs)).results [])
  (d:∀n:Nat->Bool,(∀p∈a,n p.block=true)->DataW.TrodAll enc P w 0 n true f.params.toList args.toList (s.fn H (ds++gs)).args pa)
  (c:∀n:Nat->Bool,(∀p∈a,n p.block=true)->DataW.TrodVars enc P w n s.vars (s.fn H (ds++gs)).vars pv)
  (i:a=pa++pv) (hb:Below W.heap.size W w)
  (A:∀(j:Nat) (t:TypeId) (r:Value),f.resultTypes[j]?=some t->(v.resultList f.resultTypes.size)[j]?=some r->Value.okWide P w .any 0 t r) :
  s.post enc P f apart u e m W args v w:=by
 have y:∀p∈a,p.block<W.heap.size:=λp h=>B.lt p h
 have hold:∀p∈a,(λb=>decide (b<W.heap.size)) p.block=true:=λp h=>by simpa using y p h
 refine⟨ds,gs,a,[],pa,pv,B,k _ _ _,d _ hold,c _ hold,World.keptBut_mono (λp h=>⟨h,?_⟩) (hb.frame (·∈a)),λ_=>?_⟩
 .rw [i,VV]at h;exact Or.inr h
 .obtain⟨_,_,_,_,_,C,E⟩:=B;refine⟨A,_,_,([]++pa)++pv,⟨[]++pa,pv,trodAll_append (d _ (λ_ _=>rfl)) (k _ _ _),c _ (λ_ _=>rfl),rfl,?_,?_⟩,?_⟩
  .intro b off h;have x:MemPlace.cell b off∈a:=by rw[i];simpa using h
   rw[hb.frozen (y _ x)];exact C b off x
  .intro D;have:=E D;rw[i]at this;simpa using this
  .intro p h _;rw[i];simpa using h
theorem Ew(e:laidOutB P=true){W c:World}(hb:Below W.heap.size W c){f:Nat->Bool}:∀{ts:List TypeId} {vs:Os} {ds:List (DataW H)} {ps:List MemPlace},(∀t∈ts,P.readableRec t=true/\t<P.types.size)->
  DataW.TrodAll enc P W 0 (λ_=>true) true ts vs ds ps->(∀x∈ps,x.block<W.heap.size)->(∀x∈ps,f x.block=true)->DataW.TrodAll enc P c 0 f true ts vs ds ps
 | [],[],[],_,_,h,_,_=>h
 | [],[],_::_,_,_,h,_,_=>h.elim
 | [],_::_,_,_,_,h,_,_=>h.elim
 | _::_,[],_,_,_,h,_,_=>h.elim
 | _::_,_::_,[],_,_,h,_,_=>h.elim
 | t::ts,v::vs,d::ds,ps,hr,h,hlt,hsp=>by
  obtain⟨p,q,j,i,rfl⟩:=h;have b:=hr t (by simp);exact⟨p,q,Go.WideElems.Trod_stays e b.1 b.2 j (λx a=>hb.same (hlt x (by simp[a]))) (λx a=>hsp x (by simp[a])),Ew e hb (λt k=>hr t (by simp[k])) i (λx a=>hlt x (by simp[a])) (λx a=>hsp x (by simp[a])),rfl⟩
theorem NL{w a:World}(g:dB w.heap a.heap)(r:bW w a):Below w.heap.size w a:=⟨r.os,r.tape,r.output,g.size,λk b=>g k b⟩
theorem law_post(A:laidOutB P=true){B:FuncId}{f:Func}{s:ChangeSpec}{apart u c k:Bool}{W:World}{args:Array Value}{ds gs:List (DataW H)}{h:List MemPlace}{G:TypeId}
  (K:DataW.Whole enc P f.params.toList s.vars apart W args.toList ds gs h) (b:s.vars=[]) (i:f.resultTypes=#[G]) (a:P.underlying G=some .bool)
  (n:(s.fn H (ds++gs))={ results:=[.lit (.bool true)],args:=ds }) (j:f.params.toList.all (λt=>P.readableRec t&&decide (t<P.types.size))=true)
  (L:iM P B args W.heap λv Q=>v=.bool true/\dB W.heap Q) :
  Calls P B args W λe F=>∃v,e=.returned v/\s.post enc P f apart u c k W args v F:=by
 refine (L.at W rfl).mono λe F I=>?_
 cases e <;> simp only[Fin]at I
 obtain⟨w,rfl,M⟩:=I;have hb:=NL M w;refine⟨_,rfl,?_⟩;have y:=K;obtain⟨p,q,R,J,m,O,T⟩:=K;rw[b]at J;obtain⟨rfl,rfl⟩:=trodVars_none J;have d:∀t∈f.params.toList,P.readableRec t=true/\t<P.types.size:=λt S=>by
  have:=Wt.1 j t S;simpa using this
 refine NK (pa:=p) (pv:=[]) y (λ_ _ _=>?_) (λN C=>?_) (λN _=>?_) m hb (ok_one i rfl (okWide_bool_mk a _))
 .rw [n,i];exact trodAll_cons_mk (shut_bool a _) trodAll_mk0
 .rw [n];have E:∀x∈p,x.block<W.heap.size:=λx D=>y.lt x (by rw[m];simp[D])
  exact Ew A hb d R E (λx D=>C x (by rw[m];simp[D]))
 .rw [b,n];rfl
end
def kP{H:Type}(enc:TypeId×Value->H)(P:Program)(W:World)(t:TypeId)(cs:Os):Prop:=∃fuel x,DataW.trod enc P W 0 (λ_=>true) true fuel t cs=some x
section
variable {H:Type}{enc:TypeId×Value->H}{P:Program}{W:World}
theorem iw{t:TypeId}{k:IntKind}{cs:Os}(c:P.underlying t=some (.int k))(h:kP enc P W t cs):∃n,cs=[.int k n]/\k.min<=n/\n<=k.max:=by
 obtain⟨b,x,h⟩:=h;obtain⟨n,d,_,a⟩:=DataW.trod_int c h;simp only[Lit.wf,VB,VA]at a;exact⟨n,d,a.1,a.2⟩
theorem yM{t:TypeId}{fs:Array Field}{cs:Os}(k:P.underlying t=some (.struct fs))(h:kP enc P W t cs) :
  cs.length=P.cellsOf t/\∀f∈fs.toList,kP enc P W f.type ((cs.drop f.offset).take (P.cellsOf f.type)):=by
 obtain⟨c,x,h⟩:=h;obtain⟨xs,n,_,_,j,d,e⟩:=DataW.trod_struct k h;refine⟨j,λf m=>?_⟩
 obtain⟨i,hi⟩:=List.getElem?_of_mem m;have a:fs[i]?=some f:=by simpa using hi
 have b:i<xs.length:=by rw[d];have:=(List.getElem?_eq_some_iff.1 hi).1;simpa using this
 have:=e i f a;rw[List.getElem?_eq_getElem b]at this;exact⟨n,_,this⟩
theorem Ex{α β:Type}{f:α->Option β}:∀{l:List α} {r:List β},l.mapM f=some r->r.length=l.length/\∀(i:Nat) x,l[i]?=some x->f x=r[i]?
 | [],r,h=>by simp at h;subst h;simp
 | a::l,r,h=>by
  rw[List.mapM_cons]at h
  cases hf:f a with
  | none=>simp[hf]at h
  | some b=>
   cases hg:l.mapM f with
   | none=>simp[hf,hg]at h
   | some bs=>
    simp[hf,hg]at h;subst h;obtain⟨e,d⟩:=Ex hg;refine⟨by simp[e],λi x c=>?_⟩
    cases i with
    | zero=>simp at c;subst c;simpa using hf
    | succ i=>simpa using d i x (by simpa using c)
theorem cells?_spec{b:Nat}{a:Addr}{n:Nat}{vs:Os}(h:W.cells? b a n=some vs):vs.length=n/\∀j v,aT vs j=some v->W.cell? (a.add j)=some v:=by
 unfold World.cells? at h
 split at h
 .obtain⟨d,e⟩:=Ex h;rw[List.length_range]at d;refine⟨d,λj v c=>?_⟩
  have f:=og c;rw[e j j (by rw[List.getElem?_range (by omega)]),<-fL];exact c
 .cases h
theorem cell?_at{a:Addr}{v:Value}(h:W.cell? a=some v):a=⟨a.block,a.off,none⟩/\aL W.heap a.block a.off=some v:=by
 unfold World.cell? at h
 split at h
 .rename_i c x y hb
  split at h
  .cases h
  .rename_i hs;refine⟨?_,by unfold aL;rw[hb];exact h⟩;obtain⟨b,o,s⟩:=a
   cases s <;> simp_all
 .cases h
theorem NO{t e:TypeId}{cs:Os}(G:P.underlying t=some (.slice e))(hs:0<P.cellsOf e)(h:kP enc P W t cs) :
  ∃a n c,cs=[.slice a n c]/\n<=c/\c<=maxLen/\∀i,i<n->∃d,kP enc P W e d/\d.length=P.cellsOf e/\a=some ⟨aV a,aS a,none⟩/\∀f v,aT d f=some v->aL W.heap (aV a) (aS a+i*P.cellsOf e+f)=some v:=by
 obtain⟨C,x,h⟩:=h
 rcases DataW.trod_slice G h with ⟨A,_⟩|⟨a,len,cap,w,rest,n,_,A,_,hb,F,hm,E,D,_⟩
 .exact⟨none,0,0,A,VF _,Wd _,λi hi=>V6 hi (by omega)⟩
 .have j:∀i,i<len->∃d,W.cells? 0 (a.add (i*P.cellsOf e)) (P.cellsOf e)=some d/\kP enc P W e d:=by
   intro i hi;have B:=D i hi;rw[List.getElem?_eq_getElem (by omega)]at B;obtain⟨d,k,u⟩:=Option.bind_eq_some_iff.1 B;exact⟨d,k,n,_,u⟩
  refine⟨some a,len,cap,A,F,hm,λi hi=>?_⟩
  have b:a=⟨a.block,a.off,none⟩:=by
   obtain⟨d,k,_⟩:=j 0 (by omega);obtain⟨u,y⟩:=cells?_spec k;have m:=y 0 _ (vJ (by omega));simp only[Yl]at m;have s:(a.add 0).add 0=a:=by simp[Addr.add]
   rw[s]at m;exact (cell?_at m).1
  obtain⟨d,k,u⟩:=j i hi;obtain⟨y,m⟩:=cells?_spec k;refine⟨d,u,y,by rw[aV,aS,<-b],λf v H=>?_⟩
  have s:=m f v H;rw[b,iQ,iQ]at s;exact (cell?_at s).2
theorem NP{α:Type}{n:Nat}{Q:Nat->α->Prop}(h:∀i,i<n->∃x,Q i x):∃xs:List α,xs.length=n/\∀i (hi:i<xs.length),Q i xs[i]:=by
 induction n with
 | zero=>exact⟨[],rfl,λi hi=>V6 hi (by simp)⟩
 | succ n ih=>
  obtain⟨xs,a,b⟩:=ih λi hi=>h i (by omega)
  obtain⟨x,c⟩:=h n (by omega);refine⟨xs++[x],by simp[a],λi hi=>?_⟩
  by_cases e:i<xs.length
  .rw [YN e];exact b i e
  .have:i=n:=by simp at hi;omega
   subst this;rw[List.getElem_append_right (by omega)];simp[a];exact c
theorem Ey{α:Type}{ec:α->Os}{Q:α->Prop}{t e sz:TypeId}{cs:Os}(H:P.underlying t=some (.slice e))(hs:P.cellsOf e=sz)(y:0<sz)(h:kP enc P W t cs)
  (el:∀k,kP enc P W e k->k.length=sz->∃x,k=ec x/\Q x) (d:∀x,(ec x).length=sz) :
  ∃a c xs,cs=[.slice a xs.length c]/\xs.length<=maxLen/\aP W.heap a (flat ec xs)/\∀x∈xs,Q x:=by
 subst hs;obtain⟨a,n,c,G,I,J,C⟩:=NO H y h;have D:∀i,i<n->∃x:α,Q x/\a=some ⟨aV a,aS a,none⟩/\∀f v,aT (ec x) f=some v->aL W.heap (aV a) (aS a+i*P.cellsOf e+f)=some v:=by
  intro i hi;obtain⟨k,r1,r2,r3,r4⟩:=C i hi;obtain⟨x,rfl,E⟩:=el k r1 r2;exact⟨x,E,r3,r4⟩
 obtain⟨xs,A,s⟩:=NP D;refine⟨a,c,xs,by rw[A];exact G,by omega,λj v w=>?_,λx F=>?_⟩
 .have m:=og w;rw[fg d]at m;have u:j/P.cellsOf e<xs.length:=Nat.div_lt_of_lt_mul (by rw[Nat.mul_comm];exact m);have B:j%P.cellsOf e<P.cellsOf e:=WB _ y;have b:j/P.cellsOf e*P.cellsOf e+j%P.cellsOf e=j:=by rw[Nat.mul_comm];exact Nat.div_add_mod _ _
  obtain⟨_,g1,g2⟩:=s _ u;refine⟨g1,?_⟩;have:=g2 (j%P.cellsOf e) v (by rw[<-vK d u _ B,b];exact w);rw[Wy,b]at this;exact this
 .obtain⟨i,hi,rfl⟩:=Wz F;exact (s i hi).1
theorem args_cons{t:TypeId}{ts:List TypeId}{vs:Os}{ds:List (DataW H)}{ps:List MemPlace}(h:DataW.TrodAll enc P W 0 (λ_=>true) true (t::ts) vs ds ps) :
  ∃v r d a c,vs=v::r/\ds=d::a/\kP enc P W t v.cells.toList/\DataW.TrodAll enc P W 0 (λ_=>true) true ts r a c:=by
 cases vs with
 | nil=>exact h.elim
 | cons v r=>
  cases ds with
  | nil=>exact h.elim
  | cons d a=>
   obtain⟨p,q,⟨b,f⟩,e,_⟩:=h;exact⟨v,r,d,a,q,rfl,rfl,⟨b,_,f⟩,e⟩
theorem args_nil{vs:Os}{ds:List (DataW H)}{ps:List MemPlace}(h:DataW.TrodAll enc P W 0 (λ_=>true) true [] vs ds ps):vs=[]:=by
 cases vs with
 | nil=>rfl
 | cons v r=>exact h.elim
end
section
variable {α:Type}
abbrev cy(α:Type):=List (Int×α)
def gJ(l:cy α):Prop:=l.Pairwise λa b=>a.1<b.1
def ins(n:Int)(v:α):cy α->cy α
 | []=>[(n,v)]
 | (a,b)::r=>if n<a then (n,v)::(a,b)::r else (a,b)::ins n v r
def ee(next most n:Int)(v:α)(s:cy α×Int):cy α×Int:=
 if n<next\/(aK n s.1).isSome=true then s
 else if next+most<=n then (s.1,s.2+1)
 else (ins n v s.1,s.2)
def fi(next most:Int):Int->List α->cy α×Int->cy α×Int
 | _,[],s=>s
 | n,v::vs,s=>fi next most (n+1) vs (ee next most n v s)
def pop:Int->cy α->List α×Int×cy α
 | next,[]=>([],next,[])
 | next,(n,v)::r=>if n=next then (v::(pop (next+1) r).1,(pop (next+1) r).2) else ([],next,(n,v)::r)
structure HS(α:Type) where
 next:Int
 most:Int
 rows:cy α
def HS.offer(s:HS α)(first:Int)(items:List α):HS α×List α×Int:=
 if first<0\/2199023255552<first then (s,[],(items.length:Int))
 else ({ s with next:=(pop s.next (fi s.next s.most first items (s.rows,0)).1).2.1,rows:=(pop s.next (fi s.next s.most first items (s.rows,0)).1).2.2 },
  (pop s.next (fi s.next s.most first items (s.rows,0)).1).1,(fi s.next s.most first items (s.rows,0)).2)
def HS.drain(s:HS α):HS α:={ s with rows:=[] }
structure jL(lo next most:Int)(l:cy α):Prop where
 rising:gJ l
 inb:∀p∈l,lo<=p.1/\p.1<next+most
structure HS.Ok(s:HS α):Prop where
 next0:0<=s.next
 most1:1<=s.most
 most2:s.most<=256
 rows:jL (s.next+1) s.next s.most s.rows
theorem Ez{l:cy α}(h:gJ l):(aG l).Nodup:=Y0.2 (h.imp λa e=>by omega)
theorem tG{n:Int}{v:α}{p:Int×α}:∀{l:cy α},p∈ins n v l↔p=(n,v)\/p∈l
 | []=>by simp[ins]
 | (a,b)::r=>by
  simp only[ins]
  split
  .simp
  .simp only[VN,tG (l:=r)]
   constructor
   .rintro (h|h|h) <;> simp[h]
   .rintro (h|h|h) <;> simp[h]
theorem yN(n:Int)(v:α):∀(l:cy α),(ins n v l).Perm ((n,v)::l)
 | []=>.refl _
 | (a,b)::r=>by
  simp only[ins]
  split
  .exact .refl _
  .exact ((yN n v r).cons _).trans (.swap _ _ _)
theorem EB{n:Int}{v:α}:∀{l:cy α},gJ l->aK n l=none->gJ (ins n v l)
 | [],_,_=>by simp[ins,gJ]
 | (a,b)::r,h,hn=>by
  obtain⟨f,i⟩:=W5.1 h;simp only[aK]at hn
  by_cases e:n=a
  .rw [V5 e]at hn;cases hn
  .rw [V4 e]at hn;simp only[ins]
   split
   .rename_i d;refine W5.2 ⟨λq c=>?_,h⟩
    rcases VN.1 c with rfl|c
    .exact d
    .have:=f q c;simp only at this ⊢;omega
   .rename_i d;refine W5.2 ⟨λq c=>?_,EB i hn⟩
    rcases tG.1 c with rfl|c
    .simp only;omega
    .exact f q c
theorem NQ(n:Int)(v:α)(l:cy α):(ins n v l).length=l.length+1:=by simp[(yN n v l).length_eq]
theorem EC:∀{l:cy α} {lo hi:Int},gJ l->(∀p∈l,lo<=p.1/\p.1<hi)->(l.length:Int)<=max 0 (hi-lo)
 | [],lo,hi,_,_=>by simp;omega
 | (a,b)::r,lo,hi,h,hb=>by
  obtain⟨e,d⟩:=W5.1 h;have f:=hb (a,b) (by simp);have i:=EC (lo:=a+1) (hi:=hi) d λp c=>⟨by have:=e p c;simp only at this;omega,(hb p (by simp[c])).2⟩
  simp only[VE]at *;omega
theorem jL.length{lo next most:Int}{l:cy α}(h:jL lo next most l):(l.length:Int)<=max 0 (next+most-lo):=EC h.rising h.inb
theorem EE{next most n:Int}{v:α}{s:cy α×Int}(h:jL next next most s.1):jL next next most (ee next most n v s).1:=by
 unfold ee
 split
 .exact h
 .rename_i b;simp only[not_or,Int.not_lt]at b
  split
  .exact h
  .refine⟨EB h.rising ?_,λp a=>?_⟩
   .cases hm:aK n s.1 with
    | none=>rfl
    | some u=>simp[hm]at b
   .rcases tG.1 a with rfl|a
    .simp only;omega
    .exact h.inb p a
theorem NR{next most n:Int}{v:α}{s:cy α×Int}(h:0<=s.2):s.2<=(ee next most n v s).2/\(ee next most n v s).2<=s.2+1:=by
 unfold ee
 split
 .omega
 .split <;> simp only <;> omega
theorem yO{next most:Int}:∀{vs:List α} {n:Int} {s:cy α×Int},jL next next most s.1->jL next next most (fi next most n vs s).1
 | [],_,_,h=>h
 | v::vs,n,s,h=>yO (vs:=vs) (EE h)
theorem jL.weaken{lo lo' next a most:Int}{l:cy α}(h:jL lo next most l)(d:lo'<=lo)(c:next<=a):jL lo' a most l:=
 ⟨h.rising,λp b=>by have:=h.inb p b;omega⟩
theorem NS{next:Int}:∀{l:cy α},gJ l->(∀p∈l,next<=p.1)->aK next l=match l with|[]=>none|(n,v)::_=>if n=next then some v else none
 | [],_,_=>rfl
 | (n,v)::r,h,hb=>by
  simp only[aK]
  by_cases e:n=next
  .simp [e]
  .rw [V4 (λe2=>e e2.symm),V4 e]
   obtain⟨b,c⟩:=W5.1 h;rw[fu];intro hm;obtain⟨p,a,e3⟩:=VH.1 hm;have:=b p a;have:=hb (n,v) (by simp);simp only at *;omega
theorem vV:∀{l:cy α} {next:Int},gJ l->(∀p∈l,next<=p.1)->
  next<=(pop next l).2.1/\(pop next l).2.1=next+(pop next l).1.length/\(∃k,(pop next l).2.2=l.drop k/\(pop next l).1.length=k/\k<=l.length)/\(∀p∈(pop next l).2.2,(pop next l).2.1+1<=p.1)
 | [],next,_,_=>by simp[pop]
 | (n,v)::r,next,h,hb=>by
  obtain⟨b,c⟩:=W5.1 h;simp only[pop]
  by_cases e:n=next
  .rw [V5 e];subst e;obtain⟨a1,a2,⟨k,a3,a4,a5⟩,a6⟩:=vV (l:=r) (next:=n+1) c λp a=>by have:=b p a;simp only at this;omega
   refine⟨by simp only;omega,by simp only[VE];omega,⟨k+1,by simpa using a3,by simpa using a4,by simpa using a5⟩,a6⟩
  .rw [V4 e];refine⟨by simp,by simp,⟨0,by simp⟩,λp a=>?_⟩
   have d:=hb (n,v) (by simp);simp only at d
   rcases VN.1 a with rfl|a
   .simp only;omega
   .have:=b p a;simp only at this ⊢;omega
theorem NT{n:Int}{v:α}{r:cy α}(h:gJ ((n,v)::r)):bU n ((n,v)::r)=r:=by
 have b:aK n r=none:=fu.2 λhm=>by
  obtain⟨p,a,e3⟩:=VH.1 hm;have:=(W5.1 h).1 p a;simp only at this;omega
 have c:bU n ((n,v)::r)=bU n r:=by simp[bU,Wm]
 rw[c,kN b]
theorem HS.offer_ok{s:HS α}(h:s.Ok)(first:Int)(items:List α):(s.offer first items).1.Ok/\s.next<=(s.offer first items).1.next/\(s.offer first items).1.next<=s.next+s.most/\(s.offer first items).1.most=s.most:=by
 unfold HS.offer
 split
 .exact⟨h,by simp,by have:=h.most1;simp only;omega,rfl⟩
 .have b:=yO (vs:=items) (n:=first) (s:=(s.rows,0)) (h.rows.weaken (lo':=s.next) (by omega) (Wh _));obtain⟨a1,a2,⟨k,a3,a4,a5⟩,a6⟩:=vV b.rising λp a=>(b.inb p a).1
  have c:=b.length;have:=h.most1;have d:((pop s.next (fi s.next s.most first items (s.rows,0)).1).1.length:Int)<=s.most:=by omega
  refine⟨⟨?_,h.most1,h.most2,⟨?_,λp a=>?_⟩⟩,a1,by simp only;omega,rfl⟩
  .have:=h.next0;simp only;omega
  .simp only[a3];exact b.rising.sublist (List.drop_sublist _ _)
  .refine⟨a6 p a,?_⟩;simp only[a3]at a;have:=(b.inb p (WH a)).2;simp only;omega
theorem NV{l:cy α}(h:gJ l):sortI (aG l)=aG l:=yJ (Y0.2 (h.imp λa=>by omega))
end
instance wf64_dec (x:Int):Decidable (aF x):=by unfold aF;infer_instance
theorem vW{p q:Prop}[Decidable p][Decidable q]:(decide p ^^ decide q)=true↔((p/\¬q)\/(¬p/\q)):=by by_cases hp:p <;> by_cases hq:q <;> simp[hp,hq]
theorem df(x:Int):u64.wrap x=x%18446744073709551616:=by simp[IntKind.wrap,IntKind.bits,IntKind.signed]
theorem u64n{x:Nat}(h:x<18446744073709551616):u64.wrap (x:Int)=(x:Int):=by rw[df];omega
theorem u64m(x:Nat):u64.wrap (x:Int)=((x%18446744073709551616:Nat):Int):=by rw[df];omega
theorem bv64{n:Nat}(h:n<18446744073709551616):(BitVec.ofInt u64.bits (n:Int)).toNat=n:=by
 rw[YE,YF];exact WJ h
theorem and64{n m:Nat}(a:n<18446744073709551616)(hm:m<18446744073709551616):aY .and .u64 (n:Int) (m:Int)=((n &&& m:Nat):Int):=by
 unfold aY;dsimp only;rw[BitVec.toNat_and,bv64 a,bv64 hm];have:n &&& m<2^64:=Nat.and_lt_two_pow n hm;exact u64n (by omega)
theorem or64{n m:Nat}(a:n<18446744073709551616)(hm:m<18446744073709551616):aY .or .u64 (n:Int) (m:Int)=((n ||| m:Nat):Int):=by
 unfold aY;dsimp only;rw[BitVec.toNat_or,bv64 a,bv64 hm];have:n ||| m<2^64:=Nat.or_lt_two_pow a hm;exact u64n (by omega)
theorem tH{n:Nat}(a:n<18446744073709551616):aY .and .u64 (n:Int) 4294967295=((n%4294967296:Nat):Int):=by
 have h:=and64 a (m:=4294967295) (by decide);have e:n &&& 4294967295=n%4294967296:=Nat.and_two_pow_sub_one_eq_mod n 32;rw[e]at h;exact h
theorem rG(a s:Nat):Int.fdiv (a:Int) (2^s)=((a/2^s:Nat):Int):=by
 rw[WY _ (Int.pow_nonneg (by decide))];rw[Int.natCast_ediv];congr 1
theorem vX(a:Nat):Int.fdiv (a:Int) (2^(min (Int.toNat 32) (u64.bits)))=((a/4294967296:Nat):Int):=rG a 32
theorem mulNN(a b:Nat):(a:Int)*(b:Int)=((a*b:Nat):Int):=(WZ a b).symm
theorem addNN(a b:Nat):(a:Int)+(b:Int)=((a+b:Nat):Int):=(Int.natCast_add a b).symm
theorem EF(v:BitVec 64):i64.wrap (v.toNat:Int)<0↔v.msb=true:=by
 rw[BitVec.msb_eq_decide,VA];have:=v.isLt;simp only[IntKind.wrap,IntKind.bits,IntKind.signed];simp;omega
theorem vY{x:Int}(h:aF x):(BitVec.ofInt 64 x).msb=decide (x<0):=by
 rw[BitVec.msb_eq_toInt,BitVec.toInt_ofInt];congr 1;unfold aF at h;rw[Int.bmod_def];apply propext
 constructor
 .intro a;split at a <;> omega
 .intro a;split <;> omega
theorem vZ{x y:Int}(b:aF x)(a:aF y):aY .xor .i64 x y<0↔(decide (x<0) ^^ decide (y<0))=true:=by
 unfold aY;dsimp only;exact (EF (BitVec.ofInt 64 x^^^BitVec.ofInt 64 y)).trans (by rw[BitVec.msb_xor,vY b,vY a])
theorem EH{x y:Int}(b:aF x)(a:aF y):aY .and .i64 x y<0↔(decide (x<0)&&decide (y<0))=true:=by
 unfold aY;dsimp only;exact (EF (BitVec.ofInt 64 x &&& BitVec.ofInt 64 y)).trans (by rw[BitVec.msb_and,vY b,vY a])
theorem jM(x:Int):i64.wrap x=(x+9223372036854775808)%18446744073709551616-9223372036854775808:=by
 simp only[IntKind.wrap,IntKind.bits,IntKind.signed];simp;omega
theorem qo(x:Int):aF (i64.wrap x):=by unfold aF;rw[jM];omega
theorem wb(op:BinOp)(x y:Int):aF (aY op .i64 x y):=by
 unfold aY
 split <;> exact qo _
theorem add_over{a b:Int}(c:aF a)(hb:aF b):decide (aY .and .i64 (aY .xor .i64 a (i64.wrap (a+b))) (aY .xor .i64 b (i64.wrap (a+b)))<0)=!decide (aF (a+b)):=by
 rw[Wp,VA,EH (wb _ _ _) (wb _ _ _),VB,VA,VA,vZ c (qo _),vZ hb (qo _),vW,vW,Wb,VD];have e:=jM (a+b);unfold aF at *;rw[e];omega
section
variable {u y1 y0 u1 q r:Nat}
theorem wd:q*(y1*4294967296+y0)=(q*y1)*4294967296+q*y0:=by rw[Nat.mul_add,Nat.mul_assoc]
theorem EI(d:2147483648<=y1)(h0:y0<4294967296)(c:u<y1*4294967296+y0)(a:u1<4294967296) :
  (u/y1)*y1+u%y1=u/\u%y1<4294967296+y1/\(u*4294967296+u1)/(y1*4294967296+y0)<=u/y1/\u/y1<=4294967297:=by
 refine⟨Yu u y1,?_,?_,?_⟩
 .have:=WB u (show 0<y1 by omega);omega
 .refine Nat.le_of_lt_succ ((Yh (by omega)).2 ?_);rw[wd];have b:=Nat.lt_mul_of_div_lt (Nat.lt_succ_self (u/y1)) (show 0<y1 by omega);generalize (u/y1).succ*y1=p at *;omega
 .refine Nat.le_of_lt_succ ((Yh (by omega)).2 ?_);omega
theorem kn_dec(f:2147483648<=y1)(e:u<y1*4294967296+y0)(c:u1<4294967296)(d:q*y1+r=u)
  (b:4294967296<=q\/4294967296*r+u1<q*y0):1<=q/\(u*4294967296+u1)/(y1*4294967296+y0)<=q-1:=by
 have a:1<=q:=by
  rcases b with h|h
  .omega
  .cases q with
   | zero=>rw[Yl]at h;omega
   | succ n=>omega
 refine⟨a,Nat.le_sub_one_of_lt ?_⟩
 rcases b with h|h
 .refine Nat.lt_of_lt_of_le ((Yh (by omega)).2 ?_) h;omega
 .refine (Yh (by omega)).2 ?_;rw[wd];generalize q*y1=p at *;omega
theorem EJ(d:2147483648<=y1)(b:q*y1+r=u)(a:(u*4294967296+u1)/(y1*4294967296+y0)<=q)(c:q*y0<=4294967296*r+u1) :
  q=(u*4294967296+u1)/(y1*4294967296+y0):=by
 refine Nat.le_antisymm ((Nat.le_div_iff_mul_le (by omega)).2 ?_) a;rw[wd];generalize q*y1=p at *;omega
theorem EK(e:2147483648<=y1)(h0:y0<4294967296)(c:q*y1+r=u)(a:(u*4294967296+u1)/(y1*4294967296+y0)<=q)(d:4294967296<=r)(b:q<=4294967296) :
  q=(u*4294967296+u1)/(y1*4294967296+y0):=by
 refine Nat.le_antisymm ((Nat.le_div_iff_mul_le (by omega)).2 ?_) a;rw[wd];have:q*y0<=4294967296*4294967296:=Nat.mul_le_mul b (by omega);generalize q*y1=p at *;omega
theorem kn_lt{y:Nat}(b:u<y)(a:u1<4294967296):(u*4294967296+u1)/y<4294967296:=(Yh (by omega)).2 (by omega)
theorem kn_join'{U y u0:Nat}(b:0<y):((U*4294967296+u0)/y=U/y*4294967296+((U%y)*4294967296+u0)/y)/\
  ((U*4294967296+u0)%y=((U%y)*4294967296+u0)%y):=by
 have e1:=Nat.div_add_mod U y;have e:U*4294967296+u0=(U%y*4294967296+u0)+y*(U/y*4294967296):=by
  rw[<-Nat.mul_assoc];obtain⟨p,a⟩:∃p,p=y*(U/y):=⟨_,rfl⟩;rw[<-a]at e1 ⊢;omega
 rw[e,Nat.add_mul_div_left _ _ b,Nat.add_mul_mod_self_left];refine⟨?_,?_⟩
 .have c:(U%y*4294967296+u0+y*(U/y*4294967296))=U*4294967296+u0:=e.symm;omega
 .have d:(U%y*4294967296+u0+y*(U/y*4294967296))=U*4294967296+u0:=e.symm;rfl
theorem kn_join{y u0:Nat}(a:0<y):(((u*4294967296+u1)*4294967296+u0)/y=(u*4294967296+u1)/y*4294967296+(((u*4294967296+u1)%y)*4294967296+u0)/y)/\
  (((u*4294967296+u1)*4294967296+u0)%y=(((u*4294967296+u1)%y)*4294967296+u0)%y):=kn_join' a
end
theorem norm_aux(a b M:Nat):(a+b/M)*M+b%M=a*M+b:=by rw[Wr,Wy,Yu]
theorem norm_num{hi lo s:Nat}(hs:s<=64)(a:lo<18446744073709551616):(hi*2^s+lo/2^(64-s))*18446744073709551616+(lo*2^s)%18446744073709551616=(hi*18446744073709551616+lo)*2^s:=by
 have e:(18446744073709551616:Nat)=2^(64-s)*2^s:=by rw[<-W8,show 64-s+s=64 by omega]
 have e2:lo/2^(64-s)=(lo*2^s)/18446744073709551616:=by
  rw[e,Nat.mul_div_mul_right _ _ (Ya s)]
 rw[e2,norm_aux,Wr,Nat.mul_right_comm]
theorem EL:∀{l:Os},(∀v∈l,cT [v]=true)->cT l=true
 | [],_=>rfl
 | v::r,h=>by
  have c:=h v VO;have a:=EL (l:=r) λx b=>h x (VQ _ b)
  cases v <;> simp[cT]at c a ⊢ <;> exact a
theorem EM{v:Value}:∀{l:Os},cT l=true->v∈l->cT [v]=true
 | [],_,a=>by cases a
 | u::r,h,a=>by
  have b:=ym h
  rcases VN.1 a with rfl|a
  .exact b.1
  .exact EM b.2 a
def yP(P:Program)(e:TypeId):Bool:=match P.info? e with
 | some i=>(match i.zero with|some z=>cT z.cells.toList|none=>false)
 | none=>false
theorem NW{z:Array Value}(d:cT z.toList=true)(k:Nat):cT (Builtin.zeroCells z k).toList=true:=by
 refine EL λv c=>?_
 simp only[Builtin.zeroCells,Array.toList_map,VH]at c;obtain⟨i,hi,rfl⟩:=c;have a:i<k*z.size:=by simpa using hi
 have hs:0<z.size:=by
  rcases Y1 z.size with h|h
  .rw [h]at a;omega
  .exact h
 have b:=WB i hs;rw[getElem!_pos z _ b];exact EM d (by simp)
section
variable {H:aC}{F:aE}{L:List aE}{e sz n c:Nat}{a:KQ}{cs:Os}
theorem NX{P:Program}{t bytes m c2 ty:Nat}(T:SlT P t e sz bytes){a2:KQ}{ws:Os}{K:KE}(h:aQ H (slA e sz a n c cs*F))(W:aP H a2 ws)(y:ws.length=m*sz)(D:cT ws=true)
  (d:n+m<=c)
  (k:∀M,aQ M (slA e sz a (n+m) c (cs++ws)*F)->K (.slice a (n+m) c) M) :
  cB P (Builtin.append_ #[t,t] ty #[.slice a n c,.slice a2 m c2]) H K:=by
 obtain⟨N,S,i,z,hi,Y,rfl,rfl,Q⟩:=T;refine .mk λw B=>?_
 subst B;obtain⟨f,u⟩:=ky h;have x:=tu (P:=P) (w:=w) (c2:=c2) W y
 rcases u with ⟨u,J,C,A⟩|⟨b,pre,post,U,fr,u,J,C,I,A⟩
 .subst u;subst J;subst C;obtain rfl:m=0:=by omega
  obtain rfl:ws=[]:=WN (by simpa using y);obtain rfl:cs=[]:=WN (by simpa using f);refine⟨.slice none (0+0) 0,w,?_,bW.refl w,k _ (rA A)⟩;simp[Builtin.append_,run_underlying N,sizeOf,typeInfo,hi,Builtin.lenOf,x]
 .subst u;have v:ws.length<=post.length:=by
   refine VT ?_ C;rw[y];exact W1 _ (by omega)
  have E:(n+m)*i.size<=c*i.size:=W1 _ d;rw[Wr]at E;have s:eT w.heap b (pre.length+n*i.size) ws:=A.canG ws _ (by simp[f];omega) λj G L=>I j (by omega) (by omega)
  obtain⟨R,G,L,V⟩:=qW (P:=P) (b:=b) ws (pre.length+n*i.size) 0 w (by simpa using s) (by simpa using qX _ _ s) D;refine⟨.slice (some ⟨b,pre.length,none⟩) (n+m) c,R,?_,L,k _ ?_⟩
  .simp [Builtin.append_,run_underlying N,sizeOf,typeInfo,hi,Builtin.lenOf,d,x,iQ,G]
  .rw [V];have O:=aQ.setsG ws (pre.length+n*i.size) A;have e1:pre.length+n*i.size=(pre++cs).length:=by simp[f]
   rw[e1,rB _ _ _ v]at O;rw[WM,e1];refine O.frame λp D=>⟨by simp[f,y,Wr],.inr ⟨b,pre,post.drop ws.length,U,fr,rfl,d,?_,λ_=>I,by simpa using D⟩⟩
   rw[VU,y];have:(c-(n+m))*i.size+m*i.size=(c-n)*i.size:=by rw[<-Wr];congr 1;omega
   omega
theorem aA.appendIn{P:Program}{t bytes m c2 ty:Nat}(T:SlT P t e sz bytes){a2:KQ}{ws:Os}{K:KE}(h:aA H L)(i:Nat)(v:aW i L=slA e sz a n c cs)(s:aP H a2 ws)(u:ws.length=m*sz)(w:cT ws=true)
  (b:n+m<=c)
  (k:∀d,aA d (put i (slA e sz a (n+m) c (cs++ws)) L)->K (.slice a (n+m) c) d) :
  cB P (Builtin.append_ #[t,t] ty #[.slice a n c,.slice a2 m c2]) H K:=by
 have f:=h.foc i;rw[v]at f;exact NX T f s u w b λd j=>k d (aA.back j)
theorem NY{P:Program}{t bytes m c2 ty:Nat}(T:SlT P t e sz bytes)(x:yP P e=true){K:KE}(h:aQ H (slA e sz a n c cs*F))(u:n+m<=c)
  (k:∀v R,aQ R (slA e sz a n c cs*F)->K v R) :
  cB P (Builtin.clear_ #[t] ty #[.slice (cq a n c sz) m c2]) H K:=by
 obtain⟨J,Y,i,z,hi,C,rfl,rfl,D⟩:=T;refine .mk λw G=>?_
 subst G;obtain⟨f,A⟩:=ky h;unfold yP at x;rw[hi]at x;dsimp only at x;rw[C]at x;dsimp only at x;have d:m=0\/cq a n c i.size=none->∃v y,(Builtin.clear_ #[t] ty #[.slice (cq a n c i.size) m c2]).run P w=.ok v y/\bW w y/\K v y.heap:=by
  rintro (rfl|V)
  .refine⟨.tuple #[],w,?_,bW.refl w,k _ _ h⟩
   cases cq a n c i.size <;> simp[Builtin.clear_,run_underlying J]
  .refine⟨.tuple #[],w,?_,bW.refl w,k _ _ h⟩;rw[V];simp[Builtin.clear_,run_underlying J]
 cases m with
 | zero=>exact d (.inl rfl)
 | succ m=>
  rcases A with ⟨A,O,W,I⟩|⟨b,pre,post,Z,fr,A,O,W,N,I⟩
  .exact d (.inr (by subst A;unfold cq;split <;> rfl))
  .subst A;have hb:cq (some ⟨b,pre.length,none⟩) n c i.size=some ⟨b,pre.length+n*i.size,none⟩:=by
    unfold cq;rw[nO,Wj,iQ]
   have U:(m+1)*i.size<=(c-n)*i.size:=W1 _ (by omega);have L:(n+(m+1))*i.size<=c*i.size:=W1 _ u;rw[Wr]at L;generalize hws:(Builtin.zeroCells z.cells (m+1)).toList=ws;have hl:ws.length=(m+1)*i.size:=by rw[<-hws,WA];simp[Builtin.zeroCells,D]
   have E:cT ws=true:=by rw[<-hws];exact NW x _
   have s:eT w.heap b (pre.length+n*i.size) ws:=I.canG ws _ (by simp[f];omega) λj M Q=>N j (by omega) (by omega)
   obtain⟨y,M,Q,h8⟩:=qW (P:=P) (b:=b) ws (pre.length+n*i.size) 0 w (by simpa using s) (by simpa using qX _ _ s) E;refine⟨.tuple #[],y,?_,Q,k _ _ ?_⟩
   .rw [hb];simp[Builtin.clear_,run_underlying J,zeroValue,typeInfo,hi,C,hws,M]
   .rw [h8];have S:=aQ.setsG ws (pre.length+n*i.size) I;have e1:pre.length+n*i.size=(pre++cs).length:=by simp[f]
    have B:ws.length<=post.length:=by omega
    rw[e1,rB _ _ _ B]at S;rw[WM,e1];refine S.frame λp hp=>⟨f,.inr ⟨b,pre,ws++post.drop ws.length,Z,fr,rfl,O,?_,λ_=>N,by simpa using hp⟩⟩
    rw[V7,VU];omega
theorem aA.clearS{P:Program}{t bytes m c2 ty:Nat}(T:SlT P t e sz bytes)(u:yP P e=true){K:KE}(h:aA H L)(i:Nat)(j:aW i L=slA e sz a n c cs)(b:n+m<=c)
  (k:∀v d,aA d L->K v d) :
  cB P (Builtin.clear_ #[t] ty #[.slice (cq a n c sz) m c2]) H K:=by
 have f:=h.foc i;rw[j]at f;refine NY T u f b λv d s=>k v d ?_
 unfold aA;rw[vI i L,j];exact s
theorem aA.mk0{P:Program}{t bytes:Nat}(T:SlT P t e sz bytes){K:KE}{s kc:IntKind}{c:Nat}(h:aA H L)(hb:bytes*c<=281474976710656)(v:c<=1099511627776)
  (k:∀a n,aA n (slA e sz a 0 c []::L)->K (.slice a 0 c) n):cB P (Instr.makeSlice t (.int s 0) (.int kc (c:Int))) H K:=by
 obtain⟨x,A,i,z,hi,B,rfl,rfl,u⟩:=T;refine .mk λw b=>?_
 subst b;have d:(i.bytes:Int)*(c:Int)<=281474976710656:=by
  have h:((i.bytes*c:Nat):Int)<=281474976710656:=by omega
  rwa[WZ]at h
 have m:=run_make (P:=P) w t e i z x hi B s kc 0 c (Wh _) (by omega) d (by omega);simp only[Int.toNat_zero,VJ]at m;refine⟨_,_,m,⟨rfl,rfl,rfl⟩,k _ _ ?_⟩;have f:aA _ _:=h.push (.cells (madeCells z.cells (c*i.size)) e (0,0));refine aA.mono f λp f=>⟨by simp,.inr ⟨_,[],(madeCells z.cells (c*i.size)).toList,e,(0,0),rfl,Wd _,?_,λ_ j _ _ y=>by simp at y,by simpa using f⟩⟩
 rw[WA,size_madeCells,Nat.sub_zero];exact VF _
theorem aA.mk1{P:Program}{t bytes:Nat}(T:SlT P t e 1 bytes){z0:Value}(b:vT P e=some z0)(C:z0.cells=#[z0]){K:KE}{u kc:IntKind}{c:Nat}(h:aA H L)(hb:bytes*c<=281474976710656)(B:c<=1099511627776)
  (k:∀a s,aA s (slA e 1 a c c (List.replicate c z0)::L)->K (.slice a c c) s):cB P (Instr.makeSlice t (.int u (c:Int)) (.int kc (c:Int))) H K:=by
 obtain⟨D,E,i,z,hi,x,m,rfl,y⟩:=T;refine .mk λw d=>?_
 subst d;have f:(i.bytes:Int)*(c:Int)<=281474976710656:=by
  have h:((i.bytes*c:Nat):Int)<=281474976710656:=by omega
  rwa[WZ]at h
 have n:=run_make (P:=P) w t e i z D hi x u kc c c (by omega) (Wh _) f (by omega);simp only[VJ]at n;have A:z=z0:=by
  unfold vT at b;rw[hi]at b;simpa[x] using b
 subst A;refine⟨_,_,n,⟨rfl,rfl,rfl⟩,k _ _ ?_⟩;have v:aA _ _:=h.push (.cells (madeCells z.cells (c*i.size)) e (0,0));have e2:(madeCells z.cells (c*i.size))=(List.replicate c z).toArray:=by
  rw[m,W2,C];unfold madeCells;apply Array.ext
  .simp
  .intro j F G;simp[Nat.mod_one]
 rw[e2]at v ⊢;exact aA.sl_pt (e:=e) v 1 c (by simp)
end
theorem EN{P:Program}{t:TypeId}{xs ys:Os}{r:Bool}(h:rF P t xs ys=some r)(w:World):(Op.equalIn 10000 t (.agg ⟨xs⟩) (.agg ⟨ys⟩)).run P w=.ok r w:=by
 unfold rF at h
 split at h
 .rename_i e b
  split at h
  .rename_i d;have c:P.fieldsOf t=e:=by simp[Program.fieldsOf,b]
   have a:P.underlying t=some (.struct (P.fieldsOf t)):=by rw[c];exact b
   show (Op.equalIn (9998+1+1) t (.agg ⟨xs⟩) (.agg ⟨ys⟩)).run P w=.ok r w;generalize 9998=n;rw[run_equalIn_struct w (n+1) t ⟨xs⟩ ⟨ys⟩ a d.1,c];exact yL n h
  .cases h
 .cases h
theorem NZ{P:Program}{em:Bool}{n:Nat}{t:TypeId}{v:Value}(h:jw (P.underlying t) v=true)(w:World):(Instr.checkKey em (n+1) t v).run P w=.ok () w:=by
 cases hu:P.underlying t with
 | none=>rw[hu]at h;simp[jw]at h
 | some d=>
  rw[hu]at h
  cases d <;> cases v <;> simp[jw]at h <;> simp[Instr.checkKey,run_underlying hu]
def chkF(P:Program)(xs:Os):List Field->Bool
 | []=>true
 | f::r=>(match aT xs f.offset with|some v=>jw (P.underlying f.type) v|none=>false)&&chkF P xs r
theorem Oa{P:Program}{em:Bool}{n:Nat}{t:TypeId}{xs:Os}{fs:Array Field}(d:P.underlying t=some (.struct fs))(h:chkF P xs fs.toList=true)(w:World) :
  (Instr.checkKey em (n+1+1) t (.agg ⟨xs⟩)).run P w=.ok () w:=by
 rw[Instr.checkKey];simp only[Sem.run_bind,run_underlying d,Result.andThen_ok];rw[<-Array.forIn_toList];generalize fs.toList=l at h
 induction l with
 | nil=>simp
 | cons f r a=>
  simp only[chkF,VB]at h;have a:=a h.2;have b:=h.1
  split at b
  .rename_i v i;have c:=tD (w:=w) b i;have e:=NZ (em:=em) (n:=n) b w;rw[List.forIn_cons]
   by_cases hn:f.name= "_"
   .simp only[hn,ne_eq,not_true_eq_false,if_false,Sem.run_bind,Sem.run_pure,Result.andThen_ok];exact a
   .simp only[hn,ne_eq,not_false_eq_true,if_true,Sem.run_bind,Sem.run_pure,c,e,Result.andThen_ok];exact a
  .cases b
theorem yQ{κ:Type}[DecidableEq κ]{P:Program}{k:TypeId}{V:κ->Value}(b:∀x y w,(Op.equal k (V x) (V y)).run P w=.ok (decide (x=y)) w)(x:κ)(w:World):∀(a:List MapEntry) (ks:List κ) (i:Nat),a.map (·.key)=ks.map V->
  (x∉ks->(Instr.findAsking k (V x) a i).run P w=.ok none w)/\∀j en,ks[j]?=some x->(∀l,l<j->ks[l]?≠some x)->a[j]?=some en->(Instr.findAsking k (V x) a i).run P w=.ok (some (i+j,en.val)) w
 | [],[],i,_=>⟨λ_=>by simp[Instr.findAsking],λj e h=>by simp at h⟩
 | [],_::_,i,h=>by simp at h
 | _::_,[],i,h=>by simp at h
 | e0::a,y::ks,i,h=>by
  simp only[Wf,List.cons.injEq]at h;obtain⟨t,n⟩:=yQ b x w a ks (i+1) h.2;have d:=b x y w;rw[<-h.1]at d
  by_cases e:x=y
  .subst e;refine⟨λm=>V6 (by simp) m,λj e1 f s c=>?_⟩
   have:j=0:=by
    cases j with
    | zero=>rfl
    | succ j=>exact V6 rfl (s 0 (by omega))
   subst this;simp at c;subst c;simp[Instr.findAsking,Sem.run_bind,d]
  .refine⟨λm=>?_,λj e1 f s c=>?_⟩
   .simp only[VN,not_or]at m;simp[Instr.findAsking,Sem.run_bind,d,e,t m.2]
   .cases j with
    | zero=>simp at f;exact V6 f.symm e
    | succ j=>
     have:=n j e1 (by simpa using f) (λl u=>by simpa using s (l+1) (by omega)) (by simpa using c)
     simp only[Instr.findAsking,Sem.run_bind,d,e,decide_false,Result.andThen_ok,Ye,if_false,this];rw[show i+1+j=i+(j+1) by omega]
theorem EO{d:TypeDesc}(x:Value)(c:∃a,x=.agg a):∀(b:List MapEntry) (i:Nat),b≠[]->Instr.findNow d x b i=none
 | [],_,h=>V6 rfl h
 | e0::b,i,_=>by
  obtain⟨a,rfl⟩:=c;have:Instr.sameNow d (.agg a) e0.key=none:=by cases d <;> rfl
  simp[Instr.findNow,this]
theorem Ob{κ:Type}[DecidableEq κ]{P:Program}{k:TypeId}{fs:Array Field}{enc:κ->Os}(a:P.underlying k=some (.struct fs))(hi:∀x y,enc x=enc y->x=y)
  (b:∀x y,rF P k (enc x) (enc y)=some (decide (x=y))) (c:∀x,chkF P (enc x) fs.toList=true) (hb:∀x n,Instr.sameBits (n+1+1) (.agg ⟨enc x⟩) (.agg ⟨enc x⟩)=true):nB P k (λx=>.agg ⟨enc x⟩) where
 inj x y h:=hi x y (by simpa using h)
 chk em x w:=Oa (n:=9998) a (c x) w
 non x ks es w hk2 hx:=by
  simp only[Instr.findKey,Sem.run_bind,run_underlying a,Result.andThen_ok]
  cases es with
  | nil=>simp[Instr.findNow]
  | cons e0 r=>
   rw[EO (.agg ⟨enc x⟩) ⟨_,rfl⟩ (e0::r) 0 (by simp)];exact (yQ (V:=λx=>.agg ⟨enc x⟩) (λx y w=>EN (b x y) w) x w _ ks 0 hk2).1 hx
 fnd x ks es w i en hk2 h1 h2 h3:=by
  simp only[Instr.findKey,Sem.run_bind,run_underlying a,Result.andThen_ok]
  cases es with
  | nil=>simp at h3
  | cons e0 r=>
   rw[EO (.agg ⟨enc x⟩) ⟨_,rfl⟩ (e0::r) 0 (by simp)];have:=(yQ (V:=λx=>.agg ⟨enc x⟩) (λx y w=>EN (b x y) w) x w _ ks 0 hk2).2 i en h1 h2 h3
   rw[VX]at this;exact this
 stay x w:=by simp[Instr.keyThatStays,hb x 9998]
def tI(P:Program)(e:TypeId)(xs ys:Os):List Nat->Option Bool
 | []=>some true
 | i::r=>match aT xs i,aT ys i with
  | some a,some b=>if jw (P.underlying e) a&&jw (P.underlying e) b then
    match vS a b,tI P e xs ys r with
    | some p,some s=>some (p&&s)
    | _,_=>none
   else none
  | _,_=>none
def arrEqB(P:Program)(t:TypeId)(xs ys:Os):Option Bool:=
 match P.underlying t with
 | some (.array n e)=>if P.cellsOf e=1/\P.eqGuardType P.depth t=false/\(P.info? e).isSome=true then tI P e xs ys (List.range n) else none
 | _=>none
theorem EP{P:Program}{w:World}{e:TypeId}{xs ys:Os}(d:Nat):∀{is:List Nat} {r:Bool},tI P e xs ys is=some r->(Op.eqItems (d+1) e 1 ⟨xs⟩ ⟨ys⟩ is).run P w=.ok r w
 | [],r,h=>by simp[tI]at h;subst h;simp[Op.eqItems]
 | i::is,r,h=>by
  simp only[tI]at h
  split at h
  .rename_i a b k j
   split at h
   .rename_i c;simp only[VB]at c
    split at h
    .rename_i r1 s f hs
     cases h
     simp only[Op.eqItems,W2,Sem.run_bind,tD c.1 k,tD c.2 j,Result.andThen_ok,Ep c.1 c.2 f]
     cases r1
     .simp
     .simp [EP d hs]
    .cases h
   .cases h
  .cases h
theorem yR{P:Program}{t:TypeId}{xs ys:Os}{r:Bool}(h:arrEqB P t xs ys=some r):iL P .eql t (.agg ⟨xs⟩) (.agg ⟨ys⟩) r/\iL P .neq t (.agg ⟨xs⟩) (.agg ⟨ys⟩) (!r):=by
 unfold arrEqB at h
 split at h
 .rename_i n e f
  split at h
  .rename_i a;obtain⟨i,hi⟩:=YL.1 a.2.2;have d:∀w,(Op.equalIn 10000 t (.agg ⟨xs⟩) (.agg ⟨ys⟩)).run P w=.ok r w:=by
    intro w;show (Op.equalIn (9998+1+1) t (.agg ⟨xs⟩) (.agg ⟨ys⟩)).run P w=.ok r w;generalize 9998=n;rw[run_equalIn_array w (n+1) ⟨xs⟩ ⟨ys⟩ f hi,a.1];exact EP n h
   constructor
   .intro c b w;simp only[Sem.run_bind,run_eqGuard_agg w .eql t c b ⟨xs⟩ ⟨ys⟩ a.2.1,Result.andThen_ok,run_eql_struct,d]
   .intro c b w;simp only[Sem.run_bind,run_eqGuard_agg w .neq t c b ⟨xs⟩ ⟨ys⟩ a.2.1,Result.andThen_ok,run_neq_struct,d]
  .cases h
 .cases h
noncomputable def X:Ctx:={ P:=Tryz.prog,quiet:=[20,26,29,34,50,52,55,69,76,93,97,106,113,119,121,124,138,140,164,165,173,187,220,221,228,229,230,231,232,235,249,254,258,265,269,273,274,277,279,285,297,303,311,314,315,326,329,330,332,349,354,361,364,373,374,378,381],calls:=[2,3,4,5,6,7,8,9,10,11,12,13,14,15,16,17,18,19,20,21,22,23,24,25,26,27,28,29,30,31,32,33,34,35,36,37,38,39,40,41,42,43,44,45,46,47,48,49,50,51,52,53,54,55,56,57,58,59,60,61,62,63,64,65,66,67,68,69,70,71,72,73,74,75,76,77,78,79,80,81,82,83,84,85,86,87,88,89,90,91,92,93,94,95,96,97,98,99,100,101,102,103,104,105,106,107,108,109,110,111,112,113,114,115,116,117,118,119,120,121,122,123,124,125,126,127,128,129,130,131,132,133,134,135,136,137,138,139,140,141,142,143,144,145,146,147,148,149,150,151,152,153,154,155,156,157,158,159,160,161,162,163,164,165,166,167,168,169,170,171,172,173,174,175,176,177,178,179,180,181,182,183,184,185,186,187,188,189,190,191,192,193,194,195,196,197,198,199,200,201,202,203,204,205,206,207,208,209,210,211,213,214,215,216,217,218,219,220,221,222,223,224,225,226,227,228,229,230,231,232,233,234,235,236,237,238,239,240,241,242,243,244,245,246,247,248,249,250,251,252,253,254,255,256,257,258,259,260,261,262,263,264,265,266,267,268,269,270,271,272,273,274,275,276,277,278,279,280,281,282,283,284,285,286,287,288,289,290,291,292,293,294,295,296,297,299,300,301,302,303,304,305,306,307,308,309,310,311,312,313,314,315,316,317,318,319,320,321,322,323,324,325,326,327,328,329,330,331,332,333,334,335,336,337,338,339,340,341,342,343,344,345,346,347,348,349,350,351,352,353,354,355,356,357,358,359,360,362,363,364,365,366,367,368,369,370,371,373,374,375,376,377,380,381,413],pan:=[169,172,174,175,198,199,200,201,202,203,205,207,211,262],ext:=[361,378] }
theorem X_P:X.P=Tryz.prog:=rfl
theorem rH:X.P.follows .mixedOrders=true:=by kernel_rfl
theorem X_all:X.calls.all (vE X.P)=true:=by kernel_rfl
theorem rI:∀f,bI f X.calls=true->gF X.P f:=Nz X_all
abbrev CF:=iM Tryz.prog
abbrev CP:=nj Tryz.prog
abbrev CQ:=bV Tryz.prog
abbrev Q_i(f:FuncId)(l:Os)(H:aC)(k:Int->Prop):Prop:=∃a0,CQ f ⟨l⟩ H (aB a0)/\k a0
abbrev L_sy(a0:Fa)(a1:Int):Os:=[.string a0,.int .u8 a1]
abbrev jx(a0 a1:Fa):Os:=[.string a0,.string a1]
abbrev C_i(f:FuncId)(l:Os)(H:aC)(k:Int->aC->Prop):Prop:=CF f ⟨l⟩ H λu H'=>∃a0,u=aB a0/\k a0 H'
abbrev BD(l h n:Int):Prop:=0<=l/\l<=h/\h<=n
abbrev hZ(H:aC)(b o:Nat)(k:Fa->Prop):Prop:=∃a0,aL H b o=some (.string a0)/\k a0
abbrev V_ri(a0 a1:Int):Value:=.tuple #[.int .i32 a0,aB a1]
abbrev ID(c:Prop)[Decidable c](p q:Prop):Prop:=IF (decide c) p q
abbrev fM:=aC->Prop
abbrev J_Hn:=aC->Nat
abbrev aO(H:aC)(b o:Nat)(k:Int->Prop):Prop:=∃a0,aL H b o=some (aB a0)/\k a0
abbrev IX(i n:Int):Prop:=0<=i/\i<n
abbrev gQ_i(c:Prop)(f:FuncId)(l:Os)(H:aC)(k:Int->Prop):Prop:=∃a0,(c->CQ f ⟨l⟩ H (aB a0))/\k a0
abbrev fj:=Int->aC->Prop
abbrev IN(c:Prop)[Decidable c](p q:Prop):Prop:=IF (!decide c) p q
abbrev oS:=Int->Int->aC->Prop
abbrev tJ:=Int->Int->aC->Nat
abbrev jy(a0 a1:Int):Os:=[aB a0,.int .u64 a1]
abbrev V_u2(a0 a1:Int):Value:=.tuple #[.int .u64 a0,.int .u64 a1]
abbrev A_iu(a0 a1:Int):Value:=.agg ⟨[aB a0,.int .u64 a1]⟩
abbrev ei(a0:Value)(a1:Int):Value:=.tuple #[a0,aB a1]
abbrev oT(H:aC)(b o:Nat)(k:Os->Prop):Prop:=∃a0 a1,bE H b o ([aB a0,.int .u64 a1])/\k ([aB a0,.int .u64 a1])
abbrev rd_u(H:aC)(b o:Nat)(k:Int->Prop):Prop:=∃a0,aL H b o=some (.int .u64 a0)/\k a0
abbrev L_v2(a0 a1:Value):Os:=[a0,a1]
abbrev L_u3(a0 a1 a2:Int):Os:=[.int .u64 a0,.int .u64 a1,.int .u64 a2]
abbrev L_u2(a0 a1:Int):Os:=[.int .u64 a0,.int .u64 a1]
abbrev IA(i n:Int)(a:KQ)(k:Nat->Nat->Prop):Prop:=(0<=i/\i<n)/\∃b o:Nat,a=some ⟨b,o,none⟩/\k b o
abbrev jj:=Int->aC->Nat
abbrev V_sb(a0:Fa)(a1:Bool):Value:=.tuple #[.string a0,.bool a1]
abbrev Q_b(f:FuncId)(l:Os)(H:aC)(k:Bool->Prop):Prop:=∃a0,CQ f ⟨l⟩ H (.bool a0)/\k a0
abbrev V_s2b(a0 a1:Fa)(a2:Bool):Value:=.tuple #[.string a0,.string a1,.bool a2]
abbrev mq(a0:Value)(a1:Bool):Value:=.tuple #[a0,.bool a1]
abbrev rd_y(H:aC)(b o:Nat)(k:Int->Prop):Prop:=∃a0,aL H b o=some (.int .u8 a0)/\k a0
abbrev J_i3HP:=Int->Int->Int->aC->Prop
abbrev J_i3Hn:=Int->Int->Int->aC->Nat
abbrev kz:Os:=[aB 0,aB 0,.int .u64 0,aB 0,aB 0,aB 0,aB 0]++bX .i64 Z0 65 0
abbrev rJ(a0 a1 a2 a3 a4 a5 a6:Int)(a7:Nat->Int):Os:=[aB a0,aB a1,.int .u64 a2,aB a3,aB a4,aB a5,aB a6]++bX .i64 a7 65 0
abbrev A_is(a0:Int)(a1:Fa):Value:=.agg ⟨[aB a0,.string a1]⟩
abbrev rK(a0 a1 a2 a3 a4 a5 a6:Int)(a7:Nat->Int):Value:=.agg ⟨[aB a0,aB a1,.int .u64 a2,aB a3,aB a4,aB a5,aB a6]++bX .i64 a7 65 0⟩
abbrev gz(H:aC)(b o:Nat)(k:Option Nat->Prop):Prop:=∃a0,aL H b o=some (.map a0)/\k a0
abbrev yS(a0 a1:Nat)(a2 a3:Int)(a4:Fa):Os:=[PA a0 a1,aB a2,aB a3,.string a4]
abbrev jN(a0 a1:Int):Value:=.tuple #[aB a0,aB a1]
abbrev J_bHP:=Bool->aC->Prop
abbrev JF(c p q:Prop):Prop:=(c->p)/\(¬c->q)
abbrev A_s2(a0 a1:Fa):Value:=.agg ⟨[.string a0,.string a1]⟩
abbrev A_Vi65_(a0:Nat->Int):Value:=.agg ⟨bX .i64 a0 65 0⟩
abbrev kA(a0:KQ)(a1:Int):Os:=[.pointer a0,aB a1]
abbrev AP(ts:Array Nat)(t:Nat)(l:Os)(H:aC)(k:KQ->Nat->Nat->aC->Prop):Prop:=cB Tryz.prog (Builtin.append_ ts t ⟨l⟩) H λu H'=>∃a n c,u=.slice a n c/\k a n c H'
abbrev fE(a0:KQ)(a1 a2:Nat)(a3:KQ)(a4 a5:Nat):Os:=[.slice a0 a1 a2,.slice a3 a4 a5]
abbrev C_u(f:FuncId)(l:Os)(H:aC)(k:Int->aC->Prop):Prop:=CF f ⟨l⟩ H λu H'=>∃a0,u=.int .u64 a0/\k a0 H'
abbrev mr(H:aC)(b o:Nat)(k:Os->Prop):Prop:=∃a0 a1 a2 a3 a4 a5 a6 a7,bE H b o ([aB a0,aB a1,.int .u64 a2,aB a3,aB a4,aB a5,aB a6]++bX .i64 a7 65 0)/\k ([aB a0,aB a1,.int .u64 a2,aB a3,aB a4,aB a5,aB a6]++bX .i64 a7 65 0)
abbrev gd_u(c:Prop)(H:aC)(b o:Nat)(k:Int->Prop):Prop:=∃a0,(c->aL H b o=some (.int .u64 a0))/\k a0
abbrev C_b(f:FuncId)(l:Os)(H:aC)(k:Bool->aC->Prop):Prop:=CF f ⟨l⟩ H λu H'=>∃a0,u=.bool a0/\k a0 H'
abbrev rd_Au3_(H:aC)(b o:Nat)(k:Int->Int->Int->Prop):Prop:=∃a0 a1 a2,bE H b o ([.int .u64 a0,.int .u64 a1,.int .u64 a2])/\k a0 a1 a2
abbrev nF:=(KQ)->Nat->Nat->Int->aC->Prop
abbrev nG:=(KQ)->Nat->Nat->Int->aC->Nat
abbrev C_p(f:FuncId)(l:Os)(H:aC)(k:KQ->aC->Prop):Prop:=CF f ⟨l⟩ H λu H'=>∃a0,u=.pointer a0/\k a0 H'
abbrev L_in(a0:Int):Os:=[aB a0,.slice none 0 0]
abbrev L_il(a0:Int)(a1:KQ)(a2 a3:Nat):Os:=[aB a0,.slice a1 a2 a3]
abbrev A_il(a0:Int)(a1:KQ)(a2 a3:Nat):Value:=.agg ⟨[aB a0,.slice a1 a2 a3]⟩
abbrev yT(H:aC)(b o:Nat)(k:Os->Prop):Prop:=∃a0 a1 a2 a3,bE H b o ([aB a0,.slice a1 a2 a3])/\k ([aB a0,.slice a1 a2 a3])
abbrev C_l(f:FuncId)(l:Os)(H:aC)(k:KQ->Nat->Nat->aC->Prop):Prop:=CF f ⟨l⟩ H λu H'=>∃a0 a1 a2,u=.slice a0 a1 a2/\k a0 a1 a2 H'
abbrev tK(f:FuncId)(l:Os)(H:aC)(k:KQ->Nat->Nat->Int->aC->Prop):Prop:=CF f ⟨l⟩ H λu H'=>∃a0 a1 a2 a3,u=.tuple #[.slice a0 a1 a2,aB a3]/\k a0 a1 a2 a3 H'
abbrev eA(H:aC)(b o:Nat)(k:KQ->Nat->Nat->Prop):Prop:=∃a0 a1 a2,aL H b o=some (.slice a0 a1 a2)/\k a0 a1 a2
abbrev fV(a0 a1:Int):Os:=[aB a0,aB a1]
abbrev gd_i(c:Prop)(H:aC)(b o:Nat)(k:Int->Prop):Prop:=∃a0,(c->aL H b o=some (aB a0))/\k a0
abbrev gd_l(c:Prop)(H:aC)(b o:Nat)(k:KQ->Nat->Nat->Prop):Prop:=∃a0 a1 a2,(c->aL H b o=some (.slice a0 a1 a2))/\k a0 a1 a2
abbrev L_ai2(a0 a1:Nat)(a2 a3:Int):Os:=[PA a0 a1,aB a2,aB a3]
abbrev rd_b(H:aC)(b o:Nat)(k:Bool->Prop):Prop:=∃a0,aL H b o=some (.bool a0)/\k a0
abbrev bC(H:aC)(b o:Nat)(k:KQ->Prop):Prop:=∃a0,aL H b o=some (.pointer a0)/\k a0
abbrev L_is(a0:Int)(a1:Fa):Os:=[aB a0,.string a1]
abbrev we(a0:Int)(a1:Fa)(a2 a3 a4 a5 a6 a7 a8:Int)(a9:Nat->Int):Os:=[aB a0,.string a1,aB a2,aB a3,.int .u64 a4,aB a5,aB a6,aB a7,aB a8]++bX .i64 a9 65 0
abbrev ER:=Nat->Nat->Int->aC->Prop
abbrev L_vb(a0:Value)(a1:Bool):Os:=[a0,.bool a1]
abbrev ES(f:FuncId)(l:Os)(H:aC)(k:Os->Int->aC->Prop):Prop:=CF f ⟨l⟩ H λu H'=>∃a0 a1 a2 a3 a4 a5 a6 a7 a8,u=.tuple #[.agg ⟨[aB a0,aB a1,.int .u64 a2,aB a3,aB a4,aB a5,aB a6]++bX .i64 a7 65 0⟩,aB a8]/\k ([aB a0,aB a1,.int .u64 a2,aB a3,aB a4,aB a5,aB a6]++bX .i64 a7 65 0) a8 H'
abbrev wg(H:aC)(b o:Nat)(k:Os->Prop):Prop:=∃a0 a1,bE H b o ([aB a0,.string a1])/\k ([aB a0,.string a1])
abbrev ET:Os:=[aB 0,.string (⟨#[]⟩:Fa),aB 0,aB 0,.int .u64 0,aB 0,aB 0,aB 0,aB 0]++bX .i64 Z0 65 0
abbrev MU(t:Nat)(m x v:Value)(H:aC)(k:aC->Prop):Prop:=cB Tryz.prog (Instr.mapUpdate t m x v) H λ_ H'=>k H'
abbrev yU(H:aC)(b o:Nat)(k:Os->Prop):Prop:=∃a0 a1 a2 a3 a4 a5 a6 a7 a8 a9,bE H b o ([aB a0,.string a1,aB a2,aB a3,.int .u64 a4,aB a5,aB a6,aB a7,aB a8]++bX .i64 a9 65 0)/\k ([aB a0,.string a1,aB a2,aB a3,.int .u64 a4,aB a5,aB a6,aB a7,aB a8]++bX .i64 a9 65 0)
abbrev L_sl(a0:Fa)(a1:KQ)(a2 a3:Nat):Os:=[.string a0,.slice a1 a2 a3]
abbrev A_sl(a0:Fa)(a1:KQ)(a2 a3:Nat):Value:=.agg ⟨[.string a0,.slice a1 a2 a3]⟩
abbrev yV(H:aC)(b o:Nat)(k:Os->Prop):Prop:=∃a0 a1,bE H b o ([.string a0,.string a1])/\k ([.string a0,.string a1])
abbrev EU:Os:=[aB 0,aB 0,aB 0,aB 0,aB 0,aB 0,aB 0,aB 0,aB 0,aB 0,aB 0,.slice none 0 0]
abbrev dv(a0 a1 a2 a3:Nat):Os:=[PA a0 a1,PA a2 a3]
abbrev tL:Os:=[aB 0,.bool false,.bool false,.bool false]
abbrev A_i3(a0 a1 a2:Int):Value:=.agg ⟨[aB a0,aB a1,aB a2]⟩
abbrev L_piv(a0:KQ)(a1:Int)(a2:Value):Os:=[.pointer a0,aB a1,a2]
abbrev L_i4(a0 a1 a2 a3:Int):Os:=[aB a0,aB a1,aB a2,aB a3]
abbrev P_i(f:FuncId)(l:Os)(H:aC)(k:Int->aC->Prop)(kp:KE):Prop:=CP f ⟨l⟩ H (λu H'=>∃a0,u=aB a0/\k a0 H') kp
abbrev dT(H:aC)(b o:Nat)(k:KQ->Prop):Prop:=∃a0,bE H b o ([.pointer a0])/\k a0
abbrev mt(f:FuncId)(l:Os)(H:aC)(k:aC->Prop)(kp:KE):Prop:=CP f ⟨l⟩ H (λu H'=>u=.tuple #[]/\k  H') kp
abbrev tM(a0:Int)(a1 a2 a3:Bool):Os:=[aB a0,.bool a1,.bool a2,.bool a3]
abbrev A_ib3(a0:Int)(a1 a2 a3:Bool):Value:=.agg ⟨[aB a0,.bool a1,.bool a2,.bool a3]⟩
abbrev EV(H:aC)(b o:Nat)(k:Os->Prop):Prop:=∃a0 a1 a2 a3,bE H b o ([aB a0,.bool a1,.bool a2,.bool a3])/\k ([aB a0,.bool a1,.bool a2,.bool a3])
abbrev lF(a0:Value)(a1:Int):Os:=[a0,aB a1]
abbrev ib(a0:KQ)(a1:Int):Value:=.tuple #[.pointer a0,aB a1]
abbrev P_u(f:FuncId)(l:Os)(H:aC)(k:Int->aC->Prop)(kp:KE):Prop:=CP f ⟨l⟩ H (λu H'=>∃a0,u=.int .u64 a0/\k a0 H') kp
abbrev jO(a0 a1 a2:Int):Os:=[aB a0,aB a1,aB a2]
abbrev J_n2HP:=Nat->Nat->aC->Prop
abbrev V_i3(a0 a1 a2:Int):Value:=.tuple #[aB a0,aB a1,aB a2]
abbrev L_ai(a0 a1:Nat)(a2:Int):Os:=[PA a0 a1,aB a2]
abbrev C_f(f:FuncId)(l:Os)(H:aC)(k:FuncId->Os->aC->Prop):Prop:=CF f ⟨l⟩ H λu H'=>∃a0 a1,u=.func (.func a0) #[] ⟨a1⟩/\k a0 a1 H'
abbrev L_iv(a0:Int)(a1:Value):Os:=[aB a0,a1]
abbrev J_n4HP:=Nat->Nat->Nat->Nat->aC->Prop
abbrev V_ni(a0:Int):Value:=.tuple #[.slice none 0 0,aB a0]
abbrev wh:Os:=[aB 0,aB 0,.string (⟨#[]⟩:Fa),.slice none 0 0]
abbrev L_i2sl(a0 a1:Int)(a2:Fa)(a3:KQ)(a4 a5:Nat):Os:=[aB a0,aB a1,.string a2,.slice a3 a4 a5]
abbrev A_i2sl(a0 a1:Int)(a2:Fa)(a3:KQ)(a4 a5:Nat):Value:=.agg ⟨[aB a0,aB a1,.string a2,.slice a3 a4 a5]⟩
abbrev rL(H:aC)(b o:Nat)(k:Os->Prop):Prop:=∃a0 a1 a2 a3 a4 a5,bE H b o ([aB a0,aB a1,.string a2,.slice a3 a4 a5])/\k ([aB a0,aB a1,.string a2,.slice a3 a4 a5])
abbrev EW(t:Nat)(m x:Value)(H:aC)(k:Os->Bool->Prop):Prop:=∃a0 a1 a2 a3 a4 a5,∃th,dm Tryz.prog (Instr.lookup t m x true) H (.tuple #[.agg ⟨[aB a0,aB a1,.string a2,.slice a3 a4 a5]⟩,.bool th])/\k ([aB a0,aB a1,.string a2,.slice a3 a4 a5]) th
abbrev V_li(a0:KQ)(a1 a2:Nat)(a3:Int):Value:=.tuple #[.slice a0 a1 a2,aB a3]
abbrev L_ail(a0 a1:Nat)(a2:Int)(a3:KQ)(a4 a5:Nat):Os:=[PA a0 a1,aB a2,.slice a3 a4 a5]
abbrev A_i4(a0 a1 a2 a3:Int):Value:=.agg ⟨[aB a0,aB a1,aB a2,aB a3]⟩
abbrev A_i2(a0 a1:Int):Value:=.agg ⟨[aB a0,aB a1]⟩
abbrev rM(H:aC)(b o:Nat)(k:Os->Prop):Prop:=∃a0 a1,bE H b o ([aB a0,aB a1])/\k ([aB a0,aB a1])
abbrev qp(H:aC)(b o:Nat)(k:Os->Prop):Prop:=∃a0 a1 a2 a3,bE H b o ([aB a0,aB a1,aB a2,aB a3])/\k ([aB a0,aB a1,aB a2,aB a3])
abbrev L_vi2(a0:Value)(a1 a2:Int):Os:=[a0,aB a1,aB a2]
abbrev yW(a0 a1 a2 a3 a4 a5 a6 a7 a8 a9 a10:Int)(a11:KQ)(a12 a13:Nat):Os:=[aB a0,aB a1,aB a2,aB a3,aB a4,aB a5,aB a6,aB a7,aB a8,aB a9,aB a10,.slice a11 a12 a13]
abbrev yX(a0 a1 a2 a3 a4 a5 a6 a7 a8 a9 a10:Int)(a11:KQ)(a12 a13:Nat):Value:=.agg ⟨[aB a0,aB a1,aB a2,aB a3,aB a4,aB a5,aB a6,aB a7,aB a8,aB a9,aB a10,.slice a11 a12 a13]⟩
abbrev nH(H:aC)(b o:Nat)(k:Os->Prop):Prop:=∃a0 a1 a2 a3 a4 a5 a6 a7 a8 a9 a10 a11 a12 a13,bE H b o ([aB a0,aB a1,aB a2,aB a3,aB a4,aB a5,aB a6,aB a7,aB a8,aB a9,aB a10,.slice a11 a12 a13])/\k ([aB a0,aB a1,aB a2,aB a3,aB a4,aB a5,aB a6,aB a7,aB a8,aB a9,aB a10,.slice a11 a12 a13])
abbrev A_i9(a0 a1 a2 a3 a4 a5 a6 a7 a8:Int):Value:=.agg ⟨[aB a0,aB a1,aB a2,aB a3,aB a4,aB a5,aB a6,aB a7,aB a8]⟩
abbrev NM(H:aC)(k:Nat->aC->Prop):Prop:=∀(b:Nat) (H':aC),b=H.size->H'=H.push (.map #[] 0)->k b H'
abbrev EX(f:FuncId)(l:Os)(H:aC)(k:Os->Os->aC->Prop)(kp:KE):Prop:=CP f ⟨l⟩ H (λu H'=>∃a0 a1 a2 a3 a4 a5 a6 a7 a8 a9,u=.tuple #[.agg ⟨[aB a0,.string a1]⟩,.agg ⟨[aB a2,aB a3,.int .u64 a4,aB a5,aB a6,aB a7,aB a8]++bX .i64 a9 65 0⟩]/\k ([aB a0,.string a1]) ([aB a2,aB a3,.int .u64 a4,aB a5,aB a6,aB a7,aB a8]++bX .i64 a9 65 0) H') kp
abbrev L_vl(a0:Value)(a1:KQ)(a2 a3:Nat):Os:=[a0,.slice a1 a2 a3]
abbrev L_pil(a0:KQ)(a1:Int)(a2:KQ)(a3 a4:Nat):Os:=[.pointer a0,aB a1,.slice a2 a3 a4]
abbrev EY:Os:=[aB 0,aB 0,aB 0,aB 0,.bool false,.bool false,.bool false,aB 0,aB 0,aB 0,aB 0]
abbrev L_i4b3i4(a0 a1 a2 a3:Int)(a4 a5 a6:Bool)(a7 a8 a9 a10:Int):Os:=[aB a0,aB a1,aB a2,aB a3,.bool a4,.bool a5,.bool a6,aB a7,aB a8,aB a9,aB a10]
abbrev EZ(H:aC)(b o:Nat)(k:Os->Prop):Prop:=∃a0 a1 a2 a3 a4 a5 a6 a7 a8 a9 a10,bE H b o ([aB a0,aB a1,aB a2,aB a3,.bool a4,.bool a5,.bool a6,aB a7,aB a8,aB a9,aB a10])/\k ([aB a0,aB a1,aB a2,aB a3,.bool a4,.bool a5,.bool a6,aB a7,aB a8,aB a9,aB a10])
abbrev LK_p(t:Nat)(m x:Value)(H:aC)(k:KQ->Prop):Prop:=∃a0,dm Tryz.prog (Instr.lookup t m x false) H (.pointer a0)/\k a0
abbrev Ga(f:FuncId)(l:Os)(H:aC)(k:Os->Bool->aC->Prop):Prop:=CF f ⟨l⟩ H λu H'=>∃a0 a1 a2 a3 a4,u=.tuple #[.agg ⟨[aB a0,.bool a1,.bool a2,.bool a3]⟩,.bool a4]/\k ([aB a0,.bool a1,.bool a2,.bool a3]) a4 H'
abbrev yY(f:FuncId)(l:Os)(H:aC)(k:Os->Bool->aC->Prop):Prop:=CF f ⟨l⟩ H λu H'=>∃a0 a1 a2 a3,u=.tuple #[.agg ⟨[aB a0,aB a1,aB a2]⟩,.bool a3]/\k ([aB a0,aB a1,aB a2]) a3 H'
abbrev tN(a0 a1 a2 a3 a4 a5 a6 a7 a8 a9 a10 a11 a12 a13:Int)(a14:Fa)(a15 a16 a17 a18 a19 a20 a21:Int)(a22:Nat->Int):Os:=[aB a0,aB a1,aB a2,aB a3,aB a4,aB a5,aB a6,aB a7,aB a8,aB a9,aB a10,aB a11,aB a12,aB a13,.string a14,aB a15,aB a16,.int .u64 a17,aB a18,aB a19,aB a20,aB a21]++bX .i64 a22 65 0
abbrev L_pi2(a0:KQ)(a1 a2:Int):Os:=[.pointer a0,aB a1,aB a2]
abbrev yZ(f:FuncId)(l:Os)(H:aC)(k:Os->Int->aC->Prop):Prop:=CF f ⟨l⟩ H λu H'=>∃a0 a1 a2,u=.tuple #[.agg ⟨[aB a0,aB a1]⟩,aB a2]/\k ([aB a0,aB a1]) a2 H'
abbrev L_av(a0 a1:Nat)(a2:Value):Os:=[PA a0 a1,a2]
abbrev V_v2(a0 a1:Value):Value:=.tuple #[a0,a1]
abbrev ZL_i4:Os:=[aB 0,aB 0,aB 0,aB 0]
abbrev zc:=(KQ)->Nat->Nat->aC->Prop
abbrev J_n2biHP:=Nat->Nat->Bool->Int->aC->Prop
abbrev L_pi3(a0:KQ)(a1 a2 a3:Int):Os:=[.pointer a0,aB a1,aB a2,aB a3]
abbrev Gb(f:FuncId)(l:Os)(H:aC)(k:Os->Bool->Int->aC->Prop):Prop:=CF f ⟨l⟩ H λu H'=>∃a0 a1 a2 a3 a4,u=.tuple #[.agg ⟨[aB a0,aB a1,aB a2]⟩,.bool a3,aB a4]/\k ([aB a0,aB a1,aB a2]) a3 a4 H'
abbrev L_nbn(a0:Bool):Os:=[.slice none 0 0,.bool a0,.slice none 0 0]
abbrev tO(H:aC)(b o:Nat)(k:Os->Prop):Prop:=∃a0 a1 a2 a3 a4 a5 a6,bE H b o ([.slice a0 a1 a2,.bool a3,.slice a4 a5 a6])/\k ([.slice a0 a1 a2,.bool a3,.slice a4 a5 a6])
abbrev L_pbi2(a0:KQ)(a1:Bool)(a2 a3:Int):Os:=[.pointer a0,.bool a1,aB a2,aB a3]
abbrev V_avi(a0 a1:Nat)(a2:Value)(a3:Int):Value:=.tuple #[PA a0 a1,a2,aB a3]
abbrev Gc(f:FuncId)(l:Os)(H:aC)(k:KQ->KQ->Nat->Nat->Int->aC->Prop):Prop:=CF f ⟨l⟩ H λu H'=>∃a0 a1 a2 a3 a4,u=.tuple #[.pointer a0,.slice a1 a2 a3,aB a4]/\k a0 a1 a2 a3 a4 H'
abbrev V_ip(a0:Int)(a1:KQ):Value:=.tuple #[aB a0,.pointer a1]
abbrev L_p2i(a0 a1:KQ)(a2:Int):Os:=[.pointer a0,.pointer a1,aB a2]
abbrev Oc(H:aC)(b o:Nat)(k:Int->Int->Int->Int->Int->Int->Int->Int->Int->Int->Int->Int->Int->Int->Int->KQ->KQ->KQ->Option Nat->KQ->Nat->Nat->Prop):Prop:=∃a0 a1 a2 a3 a4 a5 a6 a7 a8 a9 a10 a11 a12 a13 a14 a15 a16 a17 a18 a19 a20 a21,bE H b o ([aB a0,aB a1,aB a2,aB a3,aB a4,aB a5,aB a6,aB a7,aB a8,aB a9,aB a10,aB a11,aB a12,aB a13,aB a14,.pointer a15,.pointer a16,.pointer a17,.map a18,.slice a19 a20 a21])/\k a0 a1 a2 a3 a4 a5 a6 a7 a8 a9 a10 a11 a12 a13 a14 a15 a16 a17 a18 a19 a20 a21
abbrev C_T_(f:FuncId)(l:Os)(H:aC)(k:aC->Prop):Prop:=CF f ⟨l⟩ H λu H'=>u=.tuple #[]/\k  H'
abbrev zd:Os:=[aB 0,aB 0,aB 0,aB 0,aB 0,aB 0,aB 0,aB 0,aB 0,aB 0,.slice none 0 0,.string (⟨#[]⟩:Fa),.slice none 0 0,.slice none 0 0]
abbrev mw(H:aC)(b o:Nat)(k:Os->Prop):Prop:=∃a0 a1 a2 a3 a4 a5 a6 a7 a8 a9 a10 a11 a12 a13 a14 a15 a16 a17 a18 a19,bE H b o ([aB a0,aB a1,aB a2,aB a3,aB a4,aB a5,aB a6,aB a7,aB a8,aB a9,.slice a10 a11 a12,.string a13,.slice a14 a15 a16,.slice a17 a18 a19])/\k ([aB a0,aB a1,aB a2,aB a3,aB a4,aB a5,aB a6,aB a7,aB a8,aB a9,.slice a10 a11 a12,.string a13,.slice a14 a15 a16,.slice a17 a18 a19])
abbrev L_i13(a0 a1 a2 a3 a4 a5 a6 a7 a8 a9 a10 a11 a12:Int):Os:=[aB a0,aB a1,aB a2,aB a3,aB a4,aB a5,aB a6,aB a7,aB a8,aB a9,aB a10,aB a11,aB a12]
abbrev A_i13(a0 a1 a2 a3 a4 a5 a6 a7 a8 a9 a10 a11 a12:Int):Value:=.agg ⟨[aB a0,aB a1,aB a2,aB a3,aB a4,aB a5,aB a6,aB a7,aB a8,aB a9,aB a10,aB a11,aB a12]⟩
abbrev C_Wi13_(f:FuncId)(l:Os)(H:aC)(k:Os->aC->Prop):Prop:=CF f ⟨l⟩ H λu H'=>∃a0 a1 a2 a3 a4 a5 a6 a7 a8 a9 a10 a11 a12,u=.agg ⟨[aB a0,aB a1,aB a2,aB a3,aB a4,aB a5,aB a6,aB a7,aB a8,aB a9,aB a10,aB a11,aB a12]⟩/\k ([aB a0,aB a1,aB a2,aB a3,aB a4,aB a5,aB a6,aB a7,aB a8,aB a9,aB a10,aB a11,aB a12]) H'
abbrev wi(H:aC)(b o:Nat)(k:Os->Prop):Prop:=∃a0 a1 a2 a3 a4 a5 a6 a7 a8 a9 a10 a11 a12,bE H b o ([aB a0,aB a1,aB a2,aB a3,aB a4,aB a5,aB a6,aB a7,aB a8,aB a9,aB a10,aB a11,aB a12])/\k ([aB a0,aB a1,aB a2,aB a3,aB a4,aB a5,aB a6,aB a7,aB a8,aB a9,aB a10,aB a11,aB a12])
abbrev Od:=(KQ)->(KQ)->Nat->Nat->Int->aC->Prop
abbrev ZL_i5n:Os:=[aB 0,aB 0,aB 0,aB 0,aB 0,.slice none 0 0]
abbrev L_pv(a0:KQ)(a1:Value):Os:=[.pointer a0,a1]
abbrev A_i11n(a0 a1 a2 a3 a4 a5 a6 a7 a8 a9 a10:Int):Value:=.agg ⟨[aB a0,aB a1,aB a2,aB a3,aB a4,aB a5,aB a6,aB a7,aB a8,aB a9,aB a10,.slice none 0 0]⟩
abbrev J_biHP:=Bool->Int->aC->Prop
abbrev J_biHn:=Bool->Int->aC->Nat
abbrev Ge(H:aC)(b o:Nat)(k:Os->Prop):Prop:=∃a0 a1 a2 a3 a4 a5 a6 a7,bE H b o ([aB a0,aB a1,aB a2,aB a3,aB a4,.slice a5 a6 a7])/\k ([aB a0,aB a1,aB a2,aB a3,aB a4,.slice a5 a6 a7])
abbrev Oe:=(KQ)->(KQ)->Nat->Nat->Int->Int->aC->Prop
abbrev Of:=(KQ)->(KQ)->Nat->Nat->Int->Int->aC->Nat
abbrev C_Tpp_(f:FuncId)(l:Os)(H:aC)(k:KQ->KQ->aC->Prop):Prop:=CF f ⟨l⟩ H λu H'=>∃a0 a1,u=.tuple #[.pointer a0,.pointer a1]/\k a0 a1 H'
abbrev sI:Sh:=.one (.int .i64)
abbrev sU:Sh:=.one (.int .u64)
abbrev sB:Sh:=.one .bool
abbrev sT:Sh:=.one .str
abbrev sP:Sh:=.one .ptr
abbrev sS:Sh:=.one .slice
abbrev sA:Sh:=.one .adr
abbrev Ann.r(a:Ann):Ann:=.seq .reg a
def vcH(X:Ctx)(f:FuncId)(an:Ann)(args:Os)(H:aC)(K:KE):Prop:=match X.P.funcs[f]? with
 | some fn=>vcFun { nxF X fn with nop:=true } fn an args H K
 | none=>False
def vcHP(X:Ctx)(f:FuncId)(an:Ann)(args:Os)(H:aC)(K KP:KE):Prop:=match X.P.funcs[f]? with
 | some fn=>tp (nxF X fn) fn an args H K KP
 | none=>False
def okN(X:Ctx)(f:FuncId):Bool:=match X.P.funcs[f]? with|some fn=>okF { nxF X fn with nop:=true } fn|none=>true
theorem okN_spec{X:Ctx}{f:FuncId}(h:okN X f=true){fn:Func}(a:X.P.funcs[f]?=some fn):okF { nxF X fn with nop:=true } fn=true:=by
 unfold okN at h;rw[a]at h;exact h
theorem cL(f:FuncId)(an:Ann){args:Os}{H:aC}{K:KE}(h:vcH X f an args H K)(b:okN X f=true:=by kernel_rfl):CF f ⟨args⟩ H K:=by
 unfold vcH at h
 split at h
 case h_2=>exact h.elim
 rename_i fn a;exact D5 (X:={ nxF X fn with nop:=true }) (an:=an) X_P rH rI (X_P▸a) (okN_spec b a) rfl h
theorem cLP(f:FuncId)(an:Ann){args:Os}{H:aC}{K KP:KE}(h:vcHP X f an args H K KP)(b:okAt X f=true:=by kernel_rfl):CP f ⟨args⟩ H K KP:=by
 unfold vcHP at h
 split at h
 case h_2=>exact h.elim
 rename_i fn a;exact Nx (X:=nxF X fn) (an:=an) X_P rH rI (X_P▸a) (D6 b a) rfl h
def dA:Nat->Nat->List du->List Ann->Ann
 | 0,_,_,s=>s.headD .no
 | k+1,n,L,s=>match Nat.mod n 16,s,L with
  | 10,a::s,l::L=>dA k (Nat.div n 16) L (.blkJ l a::s)
  | 11,s,L=>dA k (Nat.div n 16) L (.r (.cond (.r .no) .no)::s)
  | 12,s,L=>dA k (Nat.div n 16) L (.r .no::s)
  | 13,a::s,L=>dA k (Nat.div n 16) L (.seq (.r (.cond (.r .no) .no)) a::s)
  | 1,a::s,L=>dA k (Nat.div n 16) L (.r a::s)
  | 2,a::b::s,L=>dA k (Nat.div n 16) L (.seq a b::s)
  | 3,a::b::s,L=>dA k (Nat.div n 16) L (.cond a b::s)
  | 4,s,L=>dA k (Nat.div n 16) L (.reg::s)
  | 5,a::s,L=>dA k (Nat.div n 16) L (.blk a::s)
  | 6,a::s,l::L=>dA k (Nat.div n 16) L (.loop l a::s)
  | 7,a::b::s,l::L=>dA k (Nat.div n 16) L (.condJ l a b::s)
  | 8,s,l::L=>dA k (Nat.div n 16) L (.regJ l::s)
  | 9,s,L=>dA k (Nat.div n 16) L (.no::s)
  | _,s,_=>s.headD .no
def vcI(X : Ctx) (f : FuncId) (an : Ann) (args : Os) (H : aC) (K : Value -> aC -> Prop) : Prop := match X.P.funcs[f]? with
 | some fn => vcFun (nxF X fn) fn an args H K
 | none => False
theorem cFE{f : FuncId}{args : Os}{H : aC}{K : Value -> aC -> Prop}{C : Prop}(an : Ann)(h : C)(c : vcI X f an args H K = C := by kernel_rfl)(hk : okAt X f = true := by kernel_rfl) : CF f ⟨args⟩ H K := by
 have a := c ▸ h;unfold vcI at a
 split at a
 case h_2 => exact a.elim
 rename_i fn b;exact D5 (X := nxF X fn) (an := an) X_P rH rI (X_P ▸ b) (D6 hk b) rfl a
theorem cE{f : FuncId}{args : Os}{H : aC}{K : Value -> aC -> Prop}{C : Prop}(n : Nat)(L : List du)(h : C)(a : vcI X f (dA 999 n L []) args H K = C := by kernel_rfl)(hk : okAt X f = true := by kernel_rfl) : CF f ⟨args⟩ H K := cFE _ h a hk
theorem cP{f : FuncId}{args : Os}{H : aC}{K KP : Value -> aC -> Prop}{C : Prop}(n : Nat)(L : List du)(h : C)(a : vcHP X f (dA 999 n L []) args H K KP = C := by kernel_rfl)(hk : okAt X f = true := by kernel_rfl) : CP f ⟨args⟩ H K KP := cLP f _ (a ▸ h) hk
theorem cN(f : FuncId)(n : Nat)(L : List du){args : Os}{H : aC}{K : Value -> aC -> Prop}(h : vcH X f (dA 999 n L []) args H K)(a : okN X f = true := by kernel_rfl) : CF f ⟨args⟩ H K := cL f _ h a
theorem cM(f : FuncId)(n : Nat){args : Os}{H : aC}{K : Value -> aC -> Prop}(h : vcH X f (dA 999 n [] []) args H K)(a : okN X f = true := by kernel_rfl) : CF f ⟨args⟩ H K := cL f _ h a
theorem cNP(f : FuncId)(n : Nat)(L : List du){args : Os}{H : aC}{K KP : Value -> aC -> Prop}(h : vcHP X f (dA 999 n L []) args H K KP)(a : okAt X f = true := by kernel_rfl) : CP f ⟨args⟩ H K KP := cLP f _ h a
theorem cMP(f : FuncId)(n : Nat){args : Os}{H : aC}{K KP : Value -> aC -> Prop}(h : vcHP X f (dA 999 n [] []) args H K KP)(a : okAt X f = true := by kernel_rfl) : CP f ⟨args⟩ H K KP := cLP f _ h a
section
variable {a b c d e f g i j k a0 a1 a2 a3 a4 a5 a6 a7 a8 a9 b0 b1 b2 b3 b4 b5 b6 b7 b8 b9 c0 c1 c2 c3 c4 c5 c6 c7 c8 c9 d0 d1 d2 d3 d4 d5 d6 d7 d8 d9 e0 e1 e2 e3 e4 e5 e6 e7 e8 e9 f0 f1 f2 f3 f4 f5 f6 f7 f8 f9 g0 g1 g2 g3 g4 g5 g6 g7 g8 g9 i0 i1 i2 i3 i4 i5 i6 i7 i9 k0 k1 k2 k3 k4 k5 k6 k7 k8 k9 m0 m1 m2 m3 m4 m5 m6 m7 m8 m9 n0:Int}{l m n o p q r n1 n2 n3 n4 n5 n6 n7 n8 n9 o0 o1 o2 o3 o4 o5 o6 o7 o8 o9 p0 p1 p2 p3 p4 p5 p6 p7 p8 p9 q0 q1 q2 q3 q4 q5 q6 q7 q8 q9 s0 s1 s2 s3 s4 s5 s6 s7 s8 s9 t0 t1 t2 t3 t4 t5 t6 t7 t8 t9 u0:Nat}{s t u v u1 u2 u3 u4 u5 u6 u7 u9 v0 v1 v2 v3 v4 v5 v6 v7 v8 v9 w0 w1 w2 w3 w4 w5 w6 w7 w8 w9 x0 x1:KQ}{w x x2 x3 x4 x5 x6 x7 x8 x9 z0 z1 z2 z3 z4 z5 z6:Fa}{y z7 z8 z9 aa ab ac ad ae af ag ai aj ak al am:Bool}{z an ao ap aq ar au av aw:Nat->Int}{az ah ba bb bc bd be bf:Value}{bj bk bl bm bn bo bp bq:Os}{bt bu bv bw bx bz:FuncId}{cb cc cd ce cf cg ci cj ck cl cm cn:Option Nat}{H:aC}{K KP:KE}
theorem Og(h :
 Q_i 315 [.int .u64 a] H λb=>
 K (aB (i64.wrap (64-b))) H):CF 364 ⟨[.int .u64 a]⟩ H K:=cE 28 [] h
theorem Oh(h :
 ∃b,pK Tryz.prog 378 #[.string w,.int .u8 a] (aB b)/\
 K (aB b) H):CF 362 ⟨(L_sy w a)⟩ H K:=cE 28 [] h
theorem Oi(h :
 C_i 348 (jx w x) H λa b=>
 K (aB a) b):CF 352 ⟨(jx w x)⟩ H K:=cE 28 [] h
theorem Oj(h :
 hZ H m n λa0=>
 ID ((a0.size:Int)=0) (
 ∃(i:fM) (y:J_Hn),i H/\
 ∀a,i a->
 hZ a o p λa1=>
 ID (0<(a1.size:Int)) (
 hZ a o p λa2=>
 CF 351 ⟨[.string a2]⟩ a λa3 k=>∃b1 r1,a3=(V_ri b1 r1)/\
 hZ k o p λs=>
 (BD 0 r1 s.size)/\
 fI Tryz.prog l [.string (s.extract 0 r1.toNat)] k λa4 g=>∃r2,a4=(.bool r2)/\
 IF (!r2) (
 K (.tuple #[]) g) (
 hZ g o p λd=>
 (BD r1 d.size d.size)/\
 ST g o p [.string (d.extract r1.toNat d.size)] λt=>
 i t/\y t<y a)) (
 K (.tuple #[]) a)) (
 ∃(j:fM) (z:J_Hn),j H/\
 ∀c,j c->
 hZ c o p λa5=>
 hZ c m n λa6=>
 C_i 352 (jx a5 a6) c λr3 b=>
 ID (r3<0) (
 hZ b o p λa7=>
 fI Tryz.prog l [.string a7] b λa8 a9=>∃r4,a8=(.bool r4)/\
 K (.tuple #[]) a9) (
 hZ b o p λu=>
 aO b q r λv=>
 (BD 0 (i64.wrap (r3+v)) u.size)/\
 fI Tryz.prog l [.string (u.extract 0 ((i64.wrap (r3+v)).toNat))] b λb0 e=>∃r5,b0=(.bool r5)/\
 IF (!r5) (
 K (.tuple #[]) e) (
 hZ e o p λf=>
 hZ e m n λw=>
 (BD (i64.wrap (r3+(w.size:Int))) f.size f.size)/\
 ST e o p [(.string (f.extract ((i64.wrap (r3+(w.size:Int))).toNat) f.size))] λx=>
 j x/\z x<z c)))):CF 350 ⟨[.func (.yield l) #[] #[],PA m n,PA o p,PA q r]⟩ H K:=cE 0x213256213995121399499256512139912139944 [[],[]] h
theorem Ol(h :
 (((decide ((x.size:Int)<=(w.size:Int)))=true)->(BD (i64.wrap ((w.size:Int)-(x.size:Int))) w.size w.size))/\
 K (.bool ((decide ((x.size:Int)<=(w.size:Int)))&&((w.extract ((i64.wrap ((w.size:Int)-(x.size:Int))).toNat) w.size).toList == x.toList))) H):CF 349 ⟨(jx w x)⟩ H K:=cE 28 [] h
theorem Om(h :
 IF ((decide ((x.size:Int)=0))||(x.toList == w.toList)) (
 K (aB 0) H) (
 ID ((x.size:Int)=1) (
 (IX 0 x.size)/\
 C_i 362 (L_sy w (bAt x 0)) H λl m=>
 K (aB l) m) (
 ID ((w.size:Int)<=(x.size:Int)) (
 K (aB (-1)) H) (
 aO H 0 0 λn=>
 IF ((decide (x.size<=n))&&(decide ((w.size:Int)<=64))) (
 False) (
 (IX 0 x.size)/\
 (IX 1 x.size)/\
 ∃(f:oS) (k:tJ),f 0 0 H/\
 ∀b c d,f b c d->
 ID (b<(i64.wrap ((i64.wrap ((w.size:Int)-(x.size:Int)))+1))) (
 (IX b w.size)/\
 ∀e:fj,(∀i1 a,((IX (i64.wrap (i1+1)) w.size)/\
 (((decide ((bAt w (i64.wrap (i1+1)).toNat)=(bAt x 1)))=true)->(BD i1 (i64.wrap (i1+(x.size:Int))) w.size))/\
 IF ((decide ((bAt w (i64.wrap (i1+1)).toNat)=(bAt x 1)))&&((w.extract i1.toNat ((i64.wrap (i1+(x.size:Int))).toNat)).toList == x.toList)) (
 K (aB i1) a) (
 aO a 0 0 λg=>
 gQ_i ((decide (x.size<=g))=true) 373 [aB (i64.wrap (i1+1))] a λr1=>
 IF ((decide (x.size<=g))&&(decide (r1<(i64.wrap (c+1))))) (
 (BD (i64.wrap (i1+1)) w.size w.size)/\
 False) (
 aO a 0 0 λi=>
 (((decide (i<x.size))=true)->((0:Int)<=4))/\
 IF (((decide (i<x.size))&&(decide ((i64.wrap (4+(Int.fdiv (i64.wrap (i1+1)) (2^(min (Int.toNat 4) (i64.bits))))))<=(i64.wrap (c+1)))))&&(decide ((i64.wrap (i1+1))<(i64.wrap ((i64.wrap ((w.size:Int)-(x.size:Int)))+1))))) (
 (BD (i64.wrap (i1+1)) w.size w.size)/\
 Q_i 374 (jx (w.extract ((i64.wrap (i1+1)).toNat) w.size) x) a λr2=>
 ID (r2<0) (
 K (aB (-1)) a) (
 K (aB (i64.wrap ((i64.wrap (i1+1))+r2))) a)) (
 f (i64.wrap (i1+1)) (i64.wrap (c+1)) a/\k (i64.wrap (i1+1)) (i64.wrap (c+1)) a<k b c d))))->e i1 a)->
 IN ((bAt w b.toNat)=(bAt x 0)) (
 (BD (i64.wrap (b+1)) (i64.wrap ((i64.wrap ((w.size:Int)-(x.size:Int)))+1)) w.size)/\
 C_i 362 (L_sy (w.extract ((i64.wrap (b+1)).toNat) ((i64.wrap ((i64.wrap ((w.size:Int)-(x.size:Int)))+1)).toNat)) (bAt x 0)) d λr3 j=>
 ID (r3<0) (
 K (aB (-1)) j) (
 e (i64.wrap (b+(i64.wrap (r3+1)))) j)) (
 e b d)) (
 K (aB (-1)) d)))))):CF 348 ⟨(jx w x)⟩ H K:=cE 0x112513c13c13cb111112562139952171d49d11131dc131dc9c [[(8,sI)],[(8,sI),(10,sI)]] h
theorem On(h :
 AL H (jy a b) 157 λg o=>
 AL o (jy c d) 157 λi p=>
 AL p (jy 0 0) 157 λf e=>
 rd_u e g 1 λq=>
 rd_u e i 1 λr=>
 ∃n r1,pK Tryz.prog 361 #[.int .u64 q,.int .u64 r,.int .u64 0] (V_u2 n r1)/\
 aO e g 0 λj=>
 aO e i 0 λk=>
 aO e g 0 λs=>
 aO e i 0 λt=>
 ID ((aY .and .i64 (aY .xor .i64 s (i64.wrap ((i64.wrap (j+k))+(i64.wrap r1)))) (aY .xor .i64 t (i64.wrap ((i64.wrap (j+k))+(i64.wrap r1)))))<0) (
 ST e f 0 (jy 0 0) λl=>
 oT l f 0 λu=>
 K (ei (.agg ⟨u⟩) 12) l) (
 ST e f 0 (jy (i64.wrap ((i64.wrap (j+k))+(i64.wrap r1))) n) λm=>
 oT m f 0 λv=>
 K (ei (.agg ⟨v⟩) 0) m)):CF 336 ⟨(L_v2 (A_iu a b) (A_iu c d))⟩ H K:=cE 70108 [] h
def lG.r1(hi lo y:Int)(K:KE)(r q1 q0:Int)(H_3:aC):Prop:=
 ((0:Int)<=(u64.wrap r))/\
 K (V_u2 (u64.wrap ((u64.wrap (q1*4294967296))+q0)) (Int.fdiv (u64.wrap ((u64.wrap ((u64.wrap ((u64.wrap ((u64.wrap ((u64.wrap ((aY .or .u64 (u64.wrap (hi*2^(min (Int.toNat (u64.wrap r)) (u64.bits)))) (Int.fdiv lo (2^(min (Int.toNat (u64.wrap (64-(u64.wrap r)))) (u64.bits)))))*4294967296))+(Int.fdiv (u64.wrap (lo*2^(min (Int.toNat (u64.wrap r)) (u64.bits)))) (2^(min (Int.toNat 32) (u64.bits))))))-(u64.wrap (q1*(u64.wrap (y*2^(min (Int.toNat (u64.wrap r)) (u64.bits))))))))*4294967296))+(aY .and .u64 (u64.wrap (lo*2^(min (Int.toNat (u64.wrap r)) (u64.bits)))) 4294967295)))-(u64.wrap (q0*(u64.wrap (y*2^(min (Int.toNat (u64.wrap r)) (u64.bits)))))))) (2^(min (Int.toNat (u64.wrap r)) (u64.bits))))) H_3
def lG.r3(hi lo y:Int)(K:KE)(r q1:Int)(H_2:aC):Prop:=
 ((Int.fdiv (u64.wrap (y*2^(min (Int.toNat (u64.wrap r)) (u64.bits)))) (2^(min (Int.toNat 32) (u64.bits))))≠0)/\
 ∀Jn3:fj,(∀q0 H_3,lG.r1 hi lo y K r q1 q0 H_3->Jn3 q0 H_3)->
 ∃(Inv:oS) (mu:tJ),Inv (u64.wrap ((u64.wrap ((u64.wrap ((u64.wrap ((aY .or .u64 (u64.wrap (hi*2^(min (Int.toNat (u64.wrap r)) (u64.bits)))) (Int.fdiv lo (2^(min (Int.toNat (u64.wrap (64-(u64.wrap r)))) (u64.bits)))))*4294967296))+(Int.fdiv (u64.wrap (lo*2^(min (Int.toNat (u64.wrap r)) (u64.bits)))) (2^(min (Int.toNat 32) (u64.bits))))))-(u64.wrap (q1*(u64.wrap (y*2^(min (Int.toNat (u64.wrap r)) (u64.bits))))))))-(u64.wrap ((u64.wrap (Int.tdiv (u64.wrap ((u64.wrap ((u64.wrap ((aY .or .u64 (u64.wrap (hi*2^(min (Int.toNat (u64.wrap r)) (u64.bits)))) (Int.fdiv lo (2^(min (Int.toNat (u64.wrap (64-(u64.wrap r)))) (u64.bits)))))*4294967296))+(Int.fdiv (u64.wrap (lo*2^(min (Int.toNat (u64.wrap r)) (u64.bits)))) (2^(min (Int.toNat 32) (u64.bits))))))-(u64.wrap (q1*(u64.wrap (y*2^(min (Int.toNat (u64.wrap r)) (u64.bits)))))))) (Int.fdiv (u64.wrap (y*2^(min (Int.toNat (u64.wrap r)) (u64.bits)))) (2^(min (Int.toNat 32) (u64.bits))))))*(Int.fdiv (u64.wrap (y*2^(min (Int.toNat (u64.wrap r)) (u64.bits)))) (2^(min (Int.toNat 32) (u64.bits)))))))) (u64.wrap (Int.tdiv (u64.wrap ((u64.wrap ((u64.wrap ((aY .or .u64 (u64.wrap (hi*2^(min (Int.toNat (u64.wrap r)) (u64.bits)))) (Int.fdiv lo (2^(min (Int.toNat (u64.wrap (64-(u64.wrap r)))) (u64.bits)))))*4294967296))+(Int.fdiv (u64.wrap (lo*2^(min (Int.toNat (u64.wrap r)) (u64.bits)))) (2^(min (Int.toNat 32) (u64.bits))))))-(u64.wrap (q1*(u64.wrap (y*2^(min (Int.toNat (u64.wrap r)) (u64.bits)))))))) (Int.fdiv (u64.wrap (y*2^(min (Int.toNat (u64.wrap r)) (u64.bits)))) (2^(min (Int.toNat 32) (u64.bits)))))) H_2/\
 ∀rhat q0_1 H_4,Inv rhat q0_1 H_4->
 IF ((decide (4294967296<=q0_1))||(decide ((u64.wrap ((u64.wrap (4294967296*rhat))+(aY .and .u64 (u64.wrap (lo*2^(min (Int.toNat (u64.wrap r)) (u64.bits)))) 4294967295)))<(u64.wrap (q0_1*(aY .and .u64 (u64.wrap (y*2^(min (Int.toNat (u64.wrap r)) (u64.bits)))) 4294967295)))))) (
 ID (4294967296<=(u64.wrap (rhat+(Int.fdiv (u64.wrap (y*2^(min (Int.toNat (u64.wrap r)) (u64.bits)))) (2^(min (Int.toNat 32) (u64.bits))))))) (
 Jn3 (u64.wrap (q0_1-1)) H_4) (
 Inv (u64.wrap (rhat+(Int.fdiv (u64.wrap (y*2^(min (Int.toNat (u64.wrap r)) (u64.bits)))) (2^(min (Int.toNat 32) (u64.bits)))))) (u64.wrap (q0_1-1)) H_4/\mu (u64.wrap (rhat+(Int.fdiv (u64.wrap (y*2^(min (Int.toNat (u64.wrap r)) (u64.bits)))) (2^(min (Int.toNat 32) (u64.bits)))))) (u64.wrap (q0_1-1)) H_4<mu rhat q0_1 H_4)) (
 Jn3 q0_1 H_4)
def lG.r5(hi lo y:Int)(K:KE)(H_1:aC):Prop:=
 ID (hi=0) (
 (y≠0)/\
 (y≠0)/\
 K (V_u2 (u64.wrap (Int.tdiv lo y)) (Int.tmod lo y)) H_1) (
 Q_i 364 [(.int .u64 y)] H_1 λr=>
 ((0:Int)<=(u64.wrap r))/\
 ((0:Int)<=32)/\
 ((0:Int)<=(u64.wrap r))/\
 ((0:Int)<=(u64.wrap (64-(u64.wrap r))))/\
 ((0:Int)<=(u64.wrap r))/\
 ((0:Int)<=32)/\
 ((Int.fdiv (u64.wrap (y*2^(min (Int.toNat (u64.wrap r)) (u64.bits)))) (2^(min (Int.toNat 32) (u64.bits))))≠0)/\
 ∀Jn2:fj,(∀q1 H_2,lG.r3 hi lo y K r q1 H_2->Jn2 q1 H_2)->
 ∃(Inv1:oS) (mu1:tJ),Inv1 (u64.wrap (Int.tdiv (aY .or .u64 (u64.wrap (hi*2^(min (Int.toNat (u64.wrap r)) (u64.bits)))) (Int.fdiv lo (2^(min (Int.toNat (u64.wrap (64-(u64.wrap r)))) (u64.bits))))) (Int.fdiv (u64.wrap (y*2^(min (Int.toNat (u64.wrap r)) (u64.bits)))) (2^(min (Int.toNat 32) (u64.bits)))))) (u64.wrap ((aY .or .u64 (u64.wrap (hi*2^(min (Int.toNat (u64.wrap r)) (u64.bits)))) (Int.fdiv lo (2^(min (Int.toNat (u64.wrap (64-(u64.wrap r)))) (u64.bits)))))-(u64.wrap ((u64.wrap (Int.tdiv (aY .or .u64 (u64.wrap (hi*2^(min (Int.toNat (u64.wrap r)) (u64.bits)))) (Int.fdiv lo (2^(min (Int.toNat (u64.wrap (64-(u64.wrap r)))) (u64.bits))))) (Int.fdiv (u64.wrap (y*2^(min (Int.toNat (u64.wrap r)) (u64.bits)))) (2^(min (Int.toNat 32) (u64.bits))))))*(Int.fdiv (u64.wrap (y*2^(min (Int.toNat (u64.wrap r)) (u64.bits)))) (2^(min (Int.toNat 32) (u64.bits)))))))) H_1/\
 ∀q1_1 rhat1 H_5,Inv1 q1_1 rhat1 H_5->
 IF ((decide (4294967296<=q1_1))||(decide ((u64.wrap ((u64.wrap (4294967296*rhat1))+(Int.fdiv (u64.wrap (lo*2^(min (Int.toNat (u64.wrap r)) (u64.bits)))) (2^(min (Int.toNat 32) (u64.bits))))))<(u64.wrap (q1_1*(aY .and .u64 (u64.wrap (y*2^(min (Int.toNat (u64.wrap r)) (u64.bits)))) 4294967295)))))) (
 ID (4294967296<=(u64.wrap (rhat1+(Int.fdiv (u64.wrap (y*2^(min (Int.toNat (u64.wrap r)) (u64.bits)))) (2^(min (Int.toNat 32) (u64.bits))))))) (
 Jn2 (u64.wrap (q1_1-1)) H_5) (
 Inv1 (u64.wrap (q1_1-1)) (u64.wrap (rhat1+(Int.fdiv (u64.wrap (y*2^(min (Int.toNat (u64.wrap r)) (u64.bits)))) (2^(min (Int.toNat 32) (u64.bits)))))) H_5/\mu1 (u64.wrap (q1_1-1)) (u64.wrap (rhat1+(Int.fdiv (u64.wrap (y*2^(min (Int.toNat (u64.wrap r)) (u64.bits)))) (2^(min (Int.toNat 32) (u64.bits)))))) H_5<mu1 q1_1 rhat1 H_5)) (
 Jn2 q1_1 H_5))
theorem Oo(h :
 ∀i:fM,(∀d,(∀j:fM,(∀e,lG.r5 a b c K e->j e)->
 ID (c<=a) (
 ∃f,aL d 2 0=some f/\
 panP f (λ(k:Value) (l:aC)=>False) d) (
 j d))->i d)->
 ID (c=0) (
 ∃g,aL H 1 0=some g/\
 panP g (λ(m:Value) (n:aC)=>False) H) (
 i H)):CF 331 ⟨(L_u3 a b c)⟩ H K:=cE 0x12174921749d11111111112a62139951113991112a6213995111399c [[(16,sU),(18,sU)],[(18,sU)],[(15,sU),(16,sU)],[(15,sU)],[],[]] h
theorem Oq(h :
 ID (a<0) (
 K (.int .u64 (u64.wrap (0-(u64.wrap a)))) H) (
 K (.int .u64 (u64.wrap a)) H)):CF 330 ⟨[aB a]⟩ H K:=cE 476 [] h
theorem Ov(h :
 ((0:Int)<=32)/\
 ((0:Int)<=32)/\
 ((0:Int)<=32)/\
 ((0:Int)<=32)/\
 ((0:Int)<=32)/\
 K (V_u2 (u64.wrap ((u64.wrap ((u64.wrap ((Int.fdiv a (2^(min (Int.toNat 32) (u64.bits))))*(Int.fdiv b (2^(min (Int.toNat 32) (u64.bits))))))+(Int.fdiv (u64.wrap ((u64.wrap ((Int.fdiv a (2^(min (Int.toNat 32) (u64.bits))))*(aY .and .u64 b 4294967295)))+(Int.fdiv (u64.wrap ((aY .and .u64 a 4294967295)*(aY .and .u64 b 4294967295))) (2^(min (Int.toNat 32) (u64.bits)))))) (2^(min (Int.toNat 32) (u64.bits))))))+(Int.fdiv (u64.wrap ((aY .and .u64 (u64.wrap ((u64.wrap ((Int.fdiv a (2^(min (Int.toNat 32) (u64.bits))))*(aY .and .u64 b 4294967295)))+(Int.fdiv (u64.wrap ((aY .and .u64 a 4294967295)*(aY .and .u64 b 4294967295))) (2^(min (Int.toNat 32) (u64.bits)))))) 4294967295)+(u64.wrap ((aY .and .u64 a 4294967295)*(Int.fdiv b (2^(min (Int.toNat 32) (u64.bits)))))))) (2^(min (Int.toNat 32) (u64.bits)))))) (u64.wrap (a*b))) H):CF 329 ⟨(L_u2 a b)⟩ H K:=cE 18764998447388 [] h
theorem Ow(h :
 AL H (jy 0 0) 157 λe n=>
 AL n (jy 0 0) 157 λc o=>
 ∃(d:fj) (k:jj),d 0 o/\
 ∀b a,d b a->
 ID (b<l) (
 IA b l s λp q=>
 aO a p (q+b.toNat) λf=>
 rd_u a c 1 λr=>
 ∃j r1,pK Tryz.prog 361 #[.int .u64 r,.int .u64 (u64.wrap f),.int .u64 0] (V_u2 j r1)/\
 aO a c 0 λt=>
 ((0:Int)<=63)/\
 ST a c 0 (jy (i64.wrap ((i64.wrap (t+(Int.fdiv f (2^(min (Int.toNat 63) (i64.bits))))))+(i64.wrap r1))) j) λg=>
 d (i64.wrap (b+1)) g/\k (i64.wrap (b+1)) g<k b a) (
 oT a c 0 λu=>
 ST a e 0 u λi=>
 oT i e 0 λv=>
 K (.agg ⟨v⟩) i)):CF 324 ⟨[.slice s l m]⟩ H K:=cE 0x11215612399251144c [[(10,sI)]] h
def mz.r1(K:KE)(x3 n2:Int)(H_2:aC):Prop:=
 (IX (u8.wrap x3) (lt0:Fa).size)/\
 K (aB (i64.wrap (n2+(i64.wrap (bAt (lt0:Fa) (u8.wrap x3).toNat))))) H_2
def mz.r2(K:KE)(x2 n1:Int)(H_1:aC):Prop:=
 ∀Jn2:oS,(∀x3 n2 H_2,mz.r1 K x3 n2 H_2->Jn2 x3 n2 H_2)->
 ID (256<=x2) (
 ((0:Int)<=8)/\
 Jn2 (Int.fdiv x2 (2^(min (Int.toNat 8) (u64.bits)))) (i64.wrap (n1+8)) H_1) (
 Jn2 x2 n1 H_1)
def mz.r3(K:KE)(x1 n:Int)(H_:aC):Prop:=
 ∀Jn1:oS,(∀x2 n1 H_1,mz.r2 K x2 n1 H_1->Jn1 x2 n1 H_1)->
 ID (65536<=x1) (
 ((0:Int)<=16)/\
 Jn1 (Int.fdiv x1 (2^(min (Int.toNat 16) (u64.bits)))) (i64.wrap (n+16)) H_) (
 Jn1 x1 n H_)
theorem Ox(h :
 ∀b:oS,(∀c d e,mz.r3 K c d e->b c d e)->
 ID (4294967296<=a) (
 ((0:Int)<=32)/\
 b (Int.fdiv a (2^(min (Int.toNat 32) (u64.bits)))) 32 H) (
 b a 0 H)):CF 315 ⟨[.int .u64 a]⟩ H K:=cE 0x1217149217149217149c [[(0,sU),(2,sI)],[(0,sU),(2,sI)],[(0,sU),(2,sI)]] h
theorem Oz(h :
 Q_b 349 (jx w x) H λa=>
 IF (!a) (
 K (V_sb w false) H) (
 (BD 0 (i64.wrap ((w.size:Int)-(x.size:Int))) w.size)/\
 K (V_sb (w.extract 0 ((i64.wrap ((w.size:Int)-(x.size:Int))).toNat)) true) H)):CF 303 ⟨(jx w x)⟩ H K:=cE 476 [] h
theorem O0(h :
 C_i 348 (jx w x) H λa b=>
 ID (0<=a) (
 (BD 0 a w.size)/\
 (BD (i64.wrap (a+(x.size:Int))) w.size w.size)/\
 K (V_s2b (w.extract 0 a.toNat) (w.extract ((i64.wrap (a+(x.size:Int))).toNat) w.size) true) b) (
 K (V_s2b w (⟨#[]⟩:Fa) false) b)):CF 302 ⟨(jx w x)⟩ H K:=cE 74172 [] h
theorem O1(h :
 AL H (jy 0 0) 157 λe g=>
 IN ((l:Int)=16) (
 ST g e 0 (jy 0 0) λi=>
 oT i e 0 λp=>
 K (mq (.agg ⟨p⟩) false) i) (
 ∃(f:J_i3HP) (o:J_i3Hn),f 0 0 0 g/\
 ∀c d a b,f c d a b->
 ID (a<8) (
 ((0:Int)<=8)/\
 IA a l s λq r=>
 rd_y b q (r+a.toNat) λj=>
 ((0:Int)<=8)/\
 IA (i64.wrap (8+a)) l s λt u=>
 rd_y b t (u+(i64.wrap (8+a)).toNat) λk=>
 f (aY .or .u64 (u64.wrap (c*2^(min (Int.toNat 8) (u64.bits)))) (u64.wrap j)) (aY .or .u64 (u64.wrap (d*2^(min (Int.toNat 8) (u64.bits)))) (u64.wrap k)) (i64.wrap (a+1)) b/\o (aY .or .u64 (u64.wrap (c*2^(min (Int.toNat 8) (u64.bits)))) (u64.wrap j)) (aY .or .u64 (u64.wrap (d*2^(min (Int.toNat 8) (u64.bits)))) (u64.wrap k)) (i64.wrap (a+1)) b<o c d a b) (
 ST b e 0 (jy (i64.wrap c) d) λn=>
 oT n e 0 λv=>
 K (mq (.agg ⟨v⟩) true) n))):CF 301 ⟨[.slice s l m]⟩ H K:=cE 0x1d1215612399251144c [[(4,sU),(5,sU),(11,sI)]] h
def ze.r1(Inv:Int->Int->aC->Prop)(mu:Int->Int->aC->Nat)(n1 t37:Int)(H_:aC)(n2:Int)(H_3:aC):Prop:=
 Inv n2 (i64.wrap (t37+1)) H_3/\mu n2 (i64.wrap (t37+1)) H_3<mu n1 t37 H_
theorem O4(h :
 ID (b<a) (
 K (.bool false) H) (
 aO H l m λy=>
 ID ((u64.wrap y)<=(u64.wrap ((u64.wrap b)-(u64.wrap a)))) (
 K (.bool false) H) (
 gz H l (m+1) λz=>
 ∃v:Int,dm Tryz.prog (Builtin.len_ #[272] 3 #[.map z]) H (.int .i64 v)/\
 ∃(g:oS) (a4:tJ),g v 0 H/\
 ∀d e c,g d e c->
 ID (e<(i64.wrap ((i64.wrap (u64.wrap ((u64.wrap b)-(u64.wrap a))))+1))) (
 gz c l (m+1) λa0=>
 ∃j k n o p q r s,∃x:Bool,dm Tryz.prog (Instr.lookup 272 (.map a0) (A_is (i64.wrap (a+e)) w) true) c (mq (rK j k n o p q r s) x)/\
 AL c kz 161 λa1 a2=>
 ST a2 a1 0 (rJ j k n o p q r s) λi=>
 ∀f:fj,(∀t u,ze.r1 g a4 d e c t u->f t u)->
 IF (!x) (
 f (i64.wrap (d+1)) i) (
 f d i)) (
 aO c l m λa3=>
 K (.bool (decide (d<=a3))) c)))):CF 290 ⟨(yS l m a b w)⟩ H K:=cE 0x1d1d1215612399251117494c [[(10,sI)],[(10,sI),(37,sI)]] h
theorem O5(h :
 ID (c<1) (
 K (jN 0 11) H) (
 ∃g,CQ 330 #[aB a] H (.int .u64 g)/\
 ∃r1,CQ 330 #[aB b] H (.int .u64 r1)/\
 ∃r2 r3,CQ 329 #[.int .u64 g,.int .u64 r1] H (V_u2 r2 r3)/\
 ID ((u64.wrap c)<=r2) (
 K (jN 0 12) H) (
 CF 331 ⟨(L_u3 r2 r3 (u64.wrap c))⟩ H λj d=>∃r4 r5,j=(V_u2 r4 r5)/\
 ID (9223372036854775808<r4) (
 K (jN 0 12) d) (
 ∀f:fj,(∀i e,(∃r6 r7,CQ 332 #[.int .u64 i,.bool (!((decide (a<0)) == (decide (b<0))))] e (jN r6 r7)/\
 K (jN r6 r7) e)->f i e)->
 IF ((!decide (r5=0))&&(!((!((decide (a<0)) == (decide (b<0)))) == y))) (
 f (u64.wrap (r4+1)) d) (
 f r4 d))))):CF 286 ⟨[aB a,aB b,aB c,.bool y]⟩ H K:=cE 511397949699228 [[(13,sU)]] h
theorem O6(h :
 AL H (jx w x) 421 λc f=>
 hZ f c 1 λl=>
 ID (64<(l.size:Int)) (
 K (.bool false) f) (
 ∃(i:fj) (k:jj),i 0 f/\
 ∀a b,i a b->
 hZ b c 1 λm=>
 ID (a<m.size) (
 hZ b c 1 λd=>
 (IX a d.size)/\
 ∀g:J_bHP,(∀j e,(IF j (
 K (.bool false) e) (
 i (i64.wrap (a+1)) e/\k (i64.wrap (a+1)) e<k a b))->g j e)->
 JF (((decide ((bAt d a.toNat)<33))||(decide (126<(bAt d a.toNat))))=false) (
 C_i 325 (L_sy (⟨#[44,61,123,125]⟩:Fa) (bAt d a.toNat)) b λn o=>
 g (decide (0<=n)) o) (
 g true b)) (
 hZ b c 0 λp=>
 Q_b 279 [.string p] b λr1=>
 K (.bool r1) b))):CF 280 ⟨[(A_s2 w x)]⟩ H K:=cE 0x1d215621399251283c94c [[(30,sB)],[(3,sI)]] h
theorem O7(h :
 ((((decide ((w.size:Int)<1))||(decide (64<(w.size:Int))))=false)->(IX 0 w.size))/\
 (((((decide ((w.size:Int)<1))||(decide (64<(w.size:Int))))||(decide ((bAt w 0)<97)))=false)->(IX 0 w.size))/\
 IF ((((decide ((w.size:Int)<1))||(decide (64<(w.size:Int))))||(decide ((bAt w 0)<97)))||(decide (122<(bAt w 0)))) (
 K (.bool false) H) (
 ∃(c:fj) (d:jj),c 0 H/\
 ∀a b,c a b->
 ID (a<w.size) (
 (IX a w.size)/\
 IF ((((decide ((bAt w a.toNat)<97))||(decide (122<(bAt w a.toNat))))&&((decide ((bAt w a.toNat)<48))||(decide (57<(bAt w a.toNat)))))&&(!decide ((bAt w a.toNat)=95))) (
 K (.bool false) b) (
 c (i64.wrap (a+1)) b/\d (i64.wrap (a+1)) b<d a b)) (
 K (.bool true) b))):CF 279 ⟨[.string w]⟩ H K:=cE 0x1d215621399251b4c [[(3,sI)]] h
theorem O8(h :
 ID (a<0) (
 K (aB 0) H) (
 ID (a=0) (
 K (aB 1) H) (
 Q_i 315 [.int .u64 (u64.wrap a)] H λb=>
 K (aB (i64.wrap ((i64.wrap (2+b))-1))) H))):CF 277 ⟨[aB a]⟩ H K:=cE 307313852 [] h
theorem O9(h :
 AL H (bX .i64 z 65 0) 159 λd e=>
 AL e (jy 0 0) 157 λa f=>
 (BD 0 65 65)/\
 CF 324 ⟨[.slice (cq (some ⟨d,0,none⟩) 0 65 1) 65 65]⟩ f λg i=>∃c r1,g=(A_iu c r1)/\
 ST i a 0 (jy c r1) λb=>
 oT b a 0 λj=>
 K (.agg ⟨j⟩) b):CF 275 ⟨[(A_Vi65_ z)]⟩ H K:=cE 28 [] h
theorem OA(h :
 ∃a r1,CQ 303 #[.string w,.string x] H (V_sb a r1)/\
 K (V_sb a r1) H):CF 265 ⟨(jx w x)⟩ H K:=cE 28 [] h
theorem OB(h :
 CF 302 ⟨(jx w x)⟩ H λb c=>∃a r1 r2,b=(V_s2b a r1 r2)/\
 K (V_s2b a r1 r2) c):CF 264 ⟨(jx w x)⟩ H K:=cE 28 [] h
theorem OC(h :
 AL H kz 161 λb d2=>
 C_p 168 [.slice s l m] d2 λc d3=>
 C_u 171 [.pointer c] d3 λr1 d4=>
 C_u 171 [.pointer c] d4 λr2 d5=>
 C_u 171 [.pointer c] d5 λr3 d6=>
 AL d6 (L_u3 0 0 0) 486 λn d7=>
 ST d7 n 0 (L_u3 r1 r2 r3) λd8=>
 C_i 252 [.pointer c] d8 λr4 d9=>
 C_i 252 [.pointer c] d9 λr5 e0=>
 CF 176 ⟨(kA c 16)⟩ e0 λe1 e2=>∃r6,e1=(.string r6)/\
 C_i 251 (kA c 65) e2 λr7 e3=>
 ∃(z:nF) (c9:nG),z none 0 0 0 e3/\
 ∀o i y p q,z o i y p q->
 ID (p<r7) (
 C_u 171 [.pointer c] q λe4 e5=>
 C_u 171 [.pointer c] e5 λe6 e7=>
 AL e7 (L_u2 e4 e6) 488 λe8 e9=>
 AP #[487,487] 487 (fE o i y (some ⟨e8,0,none⟩) 1 1) e9 λa2 a3 a4 a5=>
 z a2 a3 a4 (i64.wrap (p+1)) a5/\c9 a2 a3 a4 (i64.wrap (p+1)) a5<c9 o i y p q) (
 C_i 177 [.pointer c] q λa6 r=>
 IN (a6=0) (
 ST r b 0 kz λa7=>
 mr a7 b 0 λf0=>
 K (ei (.agg ⟨f0⟩) a6) a7) (
 rd_Au3_ r n 0 λc0 f1 f2=>
 ∃(a0:fj) (d0:jj),a0 0 r/\
 ∀j e,a0 j e->
 ID (j<3) (
 ∃b7,me Tryz.prog (Instr.index 486 (.agg ⟨[.int .u64 c0,.int .u64 f1,.int .u64 f2]⟩) (aB j)) (.int .u64 b7)/\
 ID (9223372036854775807<b7) (
 ST e b 0 kz λa8=>
 mr a8 b 0 λf3=>
 K (ei (.agg ⟨f3⟩) 10) a8) (
 a0 (i64.wrap (j+1)) e/\d0 (i64.wrap (j+1)) e<d0 j e)) (
 (IX 0 3)/\
 rd_u e n (0+0) λf4=>
 (IX 1 3)/\
 rd_u e n (0+1) λf5=>
 (IX 2 3)/\
 rd_u e n (0+2) λf6=>
 AL e kz 161 λf f7=>
 ST f7 f 0 (rJ (i64.wrap f4) 0 0 0 0 (i64.wrap f5) (i64.wrap f6) Z0) λf8=>
 ST f8 f 3 [aB r4] λf9=>
 ST f9 f 4 [aB r5] λg0=>
 cB Tryz.prog (convert 9 43 (.string r6)) g0 λg1 g2=>
 ∃b8 b9 c1,g1=(.slice b8 b9 c1)/\
 CF 301 ⟨[.slice b8 b9 c1]⟩ g2 λg3 g4=>∃c2 c3 c4,g3=(mq (A_iu c2 c3) c4)/\
 AL g4 (jy 0 0) 157 λa9 g5=>
 ST g5 a9 0 (jy c2 c3) λt=>
 IF (!c4) (
 ST t b 0 kz λb0=>
 mr b0 b 0 λg6=>
 K (ei (.agg ⟨g6⟩) 10) b0) (
 oT t a9 0 λg7=>
 ST t f 1 g7 λg8=>
 ∃(a1:fj) (d1:jj),a1 0 g8/\
 ∀a k,a1 a k->
 ID (a<i) (
 IA a i o λg9 i0=>
 ∃c5 c6,bE k g9 (i0+a.toNat*2) (L_u2 c5 c6)/\
 AL k (L_u2 0 0) 488 λg i1=>
 ST i1 g 0 (L_u2 c5 c6) λd=>
 (((decide (0<a))=true)->(IX 0 2))/\
 gd_u ((decide (0<a))=true) d g (0+0) λu=>
 (((decide (0<a))=true)->(IX (i64.wrap (a-1)) i))/\∃c7 c8:Nat,(((decide (0<a))=true)->(o=some ⟨c7,c8,none⟩))/\
 (((decide (0<a))=true)->(IX 0 2))/\
 gd_u ((decide (0<a))=true) d c7 (c8+(i64.wrap (a-1)).toNat*2+0) λv=>
 ((((decide (0<a))&&(decide (u<=v)))=false)->(IX 0 2))/\
 gd_u (((decide (0<a))&&(decide (u<=v)))=false) d g (0+0) λi2=>
 IF (((decide (0<a))&&(decide (u<=v)))||(decide (65<=i2))) (
 ST d b 0 kz λb1=>
 mr b1 b 0 λi3=>
 K (ei (.agg ⟨i3⟩) 10) b1) (
 (IX 1 2)/\
 rd_u d g (0+1) λw=>
 (((decide (w=0))=false)->(IX 1 2))/\
 gd_u ((decide (w=0))=false) d g (0+1) λi4=>
 IF ((decide (w=0))||(decide (9223372036854775807<i4))) (
 ST d b 0 kz λb2=>
 mr b2 b 0 λi5=>
 K (ei (.agg ⟨i5⟩) 10) b2) (
 (IX 0 2)/\
 rd_u d g (0+0) λb3=>
 (IX 1 2)/\
 rd_u d g (0+1) λi6=>
 (IX b3 65)/\
 ST d f (7+b3.toNat) [aB (i64.wrap i6)] λb4=>
 a1 (i64.wrap (a+1)) b4/\d1 (i64.wrap (a+1)) b4<d1 a k))) (
 mr k f 0 λi7=>
 C_b 222 [.agg ⟨i7⟩] k λi9 x=>
 IF (!i9) (
 ST x b 0 kz λb5=>
 mr b5 b 0 λk0=>
 K (ei (.agg ⟨k0⟩) 10) b5) (
 mr x f 0 λk1=>
 ST x b 0 k1 λb6=>
 mr b6 b 0 λk2=>
 K (ei (.agg ⟨k2⟩) 0) b6))))))):CF 263 ⟨[.slice s l m]⟩ H K:=cE 0x111111215612399254421b215612399251b4111d1215612399251dd44dc [[(87,sI)],[(53,sI)],[(9,sS),(35,sI)]] h
theorem OD(h :
 AL H (L_in 0) 234 λb k=>
 tK 79 [.slice s l m] k λe a d n f=>
 IN (n=0) (
 ST f b 0 (L_in 0) λg=>
 yT g b 0 λo=>
 K (mq (.agg ⟨o⟩) false) g) (
 C_p 168 [.slice e a d] f λr1 p=>
 C_i 251 (kA r1 255) p λr2 c=>
 Q_i 173 [.pointer r1] c λr3=>
 gQ_i ((!decide (r3=0))=false) 258 [.pointer r1] c λr4=>
 IF ((!decide (r3=0))||(decide (262144<r4))) (
 ST c b 0 (L_in 0) λi=>
 yT i b 0 λq=>
 K (mq (.agg ⟨q⟩) false) i) (
 Q_i 258 [.pointer r1] c λr5=>
 (BD (i64.wrap ((a:Int)-r5)) a d)/\
 C_l 300 [(.slice (cq e ((i64.wrap ((a:Int)-r5)).toNat) d 1) (a-((i64.wrap ((a:Int)-r5)).toNat)) (d-((i64.wrap ((a:Int)-r5)).toNat)))] c λr t u v=>
 ST v b 0 (L_il r2 r t u) λj=>
 yT j b 0 λw=>
 K (mq (.agg ⟨w⟩) true) j))):CF 259 ⟨[.slice s l m]⟩ H K:=cE 18682332 [] h
theorem OE(h :
 eA H l (m+1) λa3 c a4=>
 (((decide (0<(c:Int)))=true)->True)/\
 gd_l ((decide (0<(c:Int)))=true) H l (m+1) λi j a5=>
 (((decide (0<(c:Int)))=true)->(IX (i64.wrap ((c:Int)-1)) j))/\∃f g:Nat,(((decide (0<(c:Int)))=true)->(i=some ⟨f,g,none⟩))/\
 gd_i ((decide (0<(c:Int)))=true) H f (g+(i64.wrap ((c:Int)-1)).toNat*2) λk=>
 IF ((decide (0<(c:Int)))&&(decide (k=a))) (
 eA H l (m+1) λd e a6=>
 IA (i64.wrap ((c:Int)-1)) e d λn o=>
 aO H n (o+(i64.wrap ((c:Int)-1)).toNat*2+1) λp=>
 IA (i64.wrap ((c:Int)-1)) e d λq r=>
 ST H q (r+(i64.wrap ((c:Int)-1)).toNat*2+1) [aB (i64.wrap (p+b))] λs=>
 K (.tuple #[]) s) (
 eA H l (m+1) λt u v=>
 AL H (fV a b) 122 λw x=>
 AP #[120,120] 120 (fE t u v (some ⟨w,0,none⟩) 1 1) x λy z a0 a1=>
 ST a1 l (m+1) [.slice y z a0] λa2=>
 K (.tuple #[]) a2)):CF 257 ⟨(L_ai2 l m a b)⟩ H K:=cE 8628 [] h
theorem OF(h :
 aO H l m λs=>
 aO H n o λt=>
 bC H p q λe=>
 NN e (
 aO H (aV e) (aS e) λu=>
 ST H l (m+1) [.bool (decide (s<(i64.wrap (t-u))))] λf=>
 rd_b f l (m+2) λg=>
 ((g=false)->True)/\
 ∃j,((g=false)->aL f l (m+1)=some (.bool j))/\
 ST f l (m+2) [.bool (g||j)] λa=>
 rd_b a l (m+1) λb=>
 (((!b)=true)->True)/\
 ∃c,(((!b)=true)->aL a l (m+3)=some (.bool c))/\
 ∃d,((((!b)&&(!c))=true)->aL a r n1=some (.bool d))/\
 (((((!b)&&(!c))=true)/\(!d)=false)->True)/\
 gd_i ((((!b)&&(!c))=true)/\(!d)=false) a l m λv=>
 gd_i ((((!b)&&(!c))=true)/\(!d)=false) a n2 n3 λw=>
 ∀i:fM,(∀k,(K (aB 0) k)->i k)->
 IF (((!b)&&(!c))&&((!d)||(decide (v<w)))) (
 aO a l m λx=>
 ST a n2 n3 [aB x] λy=>
 ST y r n1 [.bool true] λz=>
 i z) (
 i a))):CF 247 ⟨[PA l m,PA n o,PA p q,PA r n1,PA n2 n3]⟩ H K:=cE 4582372508 [[]] h
theorem OG(h :
 ID (b<a) (
 K (aB 10) H) (
 C_b 290 (yS l m a b w) H λc9 a7=>
 IF (!c9) (
 K (aB 20) a7) (
 ∃(a5:nF) (c7:nG),a5 none 0 0 0 a7/\
 ∀o f a2 d p,a5 o f a2 d p->
 ID (d<(i64.wrap ((i64.wrap (b-a))+1))) (
 AL p (L_is 0 (⟨#[]⟩:Fa)) 154 λj d0=>
 ST d0 j 0 (L_is (i64.wrap (a+d)) w) λe=>
 ∀a4:ER,(∀b5 b6 a3 g,(IN (a3=0) (
 K (aB a3) g) (
 ∃c0 b7,bE g j 0 (L_is c0 b7)/\
 ∃b8 b9 c1 c2 c3 c4 c5 c6,bE g b5 b6 (rJ b8 b9 c1 c2 c3 c4 c5 c6)/\
 AL g (we c0 b7 b8 b9 c1 c2 c3 c4 c5 c6) 164 λd1 d2=>
 AP #[143,143] 143 (fE o f a2 (some ⟨d1,0,none⟩) 1 1) d2 λa8 a9 b0 b1=>
 a5 a8 a9 b0 (i64.wrap (d+1)) b1/\c7 a8 a9 b0 (i64.wrap (d+1)) b1<c7 o f a2 d p))->a4 b5 b6 a3 g)->
 gz e l (m+1) λz=>
 wg e j 0 λa0=>
 ∃q r s t u v x y,dm Tryz.prog (Instr.lookup 272 (.map z) (.agg ⟨a0⟩) false) e (rK q r s t u v x y)/\
 (ES 291 (L_vb (rK q r s t u v x y) (decide (a=b))) e λd3 d4 d5=>
 AL d5 kz 161 λb2 d6=>
 ST d6 b2 0 d3 λd7=>
 a4 b2 0 d4 d7)/\
 (AL e kz 161 λb3 k=>
 dm Tryz.prog (Instr.lookup 272 (.map z) (.agg ⟨a0⟩) false) k (rK q r s t u v x y)/\
 bE k j 0 a0/\
 aL k l (m+1)=some (.map z)/\
 ES 291 (L_vb (rK q r s t u v x y) (decide (a=b))) k λd8 d9 e0=>
 ST e0 b3 0 d8 λe1=>
 a4 b3 0 d9 e1)) (
 ∃(a6:fj) (c8:jj),a6 0 p/\
 ∀c i,a6 c i->
 ID (c<f) (
 IA c f o λe2 e3=>
 yU i e2 (e3+c.toNat*74) λe4=>
 AL i ET 164 λa1 e5=>
 ST e5 a1 0 e4 λn=>
 gz n l (m+1) λe6=>
 wg n a1 0 λe7=>
 mr n a1 2 λe8=>
 MU 272 (.map e6) (.agg ⟨e7⟩) (.agg ⟨e8⟩) n λb4=>
 a6 (i64.wrap (c+1)) b4/\c8 (i64.wrap (c+1)) b4<c8 c i) (
 K (aB 0) i))))):CF 241 ⟨(yS l m a b w)⟩ H K:=cE 0x1dd1215612399251128d4421561239925144c [[(62,sI)],[(12,sA),(13,sI)],[(9,sS),(29,sI)]] h
theorem OH(h :
 AL H (L_sl w s l m) 79 λb o=>
 ∃c0 x y z,bE o b 0 (L_sl c0 x y z)/\
 C_b 226 [(A_sl c0 x y z)] o λa2 c=>
 IF (!a2) (
 K (.string (⟨#[]⟩:Fa)) c) (
 eA c b 1 λb4 a3 b5=>
 ID ((a3:Int)=0) (
 hZ c b 0 λa4=>
 K (.string a4) c) (
 eA c b 1 λb6 p b7=>
 cB Tryz.prog (Instr.makeSlice 408 (aB p) (aB p)) c λa5 q=>
 ∃j k a0,a5=(.slice j k a0)/\
 eA q b 1 λa6 r b8=>
 ∃(n:fj) (a1:jj),n 0 q/\
 ∀a d,n a d->
 ID (a<r) (
 IA a r a6 λa7 a8=>
 yV d a7 (a8+a.toNat*2) λa9=>
 AL d (jx (⟨#[]⟩:Fa) (⟨#[]⟩:Fa)) 421 λf b0=>
 ST b0 f 0 a9 λg=>
 hZ g f 0 λi=>
 (((i.size+(⟨#[61]⟩:Fa).size:Nat):Int)<=i64.max)/\
 hZ g f 1 λt=>
 ((((i++(⟨#[61]⟩:Fa)).size+t.size:Nat):Int)<=i64.max)/\
 IA a k j λb1 b2=>
 ST g b1 (b2+a.toNat) [(.string ((i++(⟨#[61]⟩:Fa))++t))] λu=>
 n (i64.wrap (a+1)) u/\a1 (i64.wrap (a+1)) u<a1 a d) (
 hZ d b 0 λe=>
 (((e.size+(⟨#[123]⟩:Fa).size:Nat):Int)<=i64.max)/\
 CF 289 ⟨[.slice j k a0,.string (⟨#[44]⟩:Fa)]⟩ d λb3 v=>∃r1,b3=(.string r1)/\
 aL v b 0=some (.string e)/\
 ((((e++(⟨#[123]⟩:Fa)).size+r1.size:Nat):Int)<=i64.max)/\
 (((((e++(⟨#[123]⟩:Fa))++r1).size+(⟨#[125]⟩:Fa).size:Nat):Int)<=i64.max)/\
 K (.string (((e++(⟨#[123]⟩:Fa))++r1)++(⟨#[125]⟩:Fa))) v)))):CF 239 ⟨[(A_sl w s l m)]⟩ H K:=cE 0x1dd121561239925144c [[(22,sI)]] h
theorem OI(h :
 ID ((aY .and .i64 (aY .xor .i64 a (i64.wrap (a+b))) (aY .xor .i64 b (i64.wrap (a+b))))<0) (
 K (jN 0 12) H) (
 K (jN (i64.wrap (a+b)) 0) H)):CF 235 ⟨(fV a b)⟩ H K:=cE 4572 [] h
theorem OJ(h :
 AL H (L_sl w s l m) 79 λe b=>
 hZ b e 0 λt=>
 Q_b 279 [.string t] b λi=>
 gd_l ((!i)=false) b e 1 λa4 u a5=>
 IF ((!i)||(decide (8<(u:Int)))) (
 K (.bool false) b) (
 eA b e 1 λv j a6=>
 ∃(g:fj) (r:jj),g 0 b/\
 ∀a d,g a d->
 ID (a<j) (
 IA a j v λx y=>
 yV d x (y+a.toNat*2) λz=>
 AL d (jx (⟨#[]⟩:Fa) (⟨#[]⟩:Fa)) 421 λf a0=>
 ST a0 f 0 z λk=>
 yV k f 0 λa1=>
 C_b 280 [.agg ⟨a1⟩] k λr1 c=>
 gd_l (((!r1)=false)/\(decide (0<a))=true) c e 1 λa2 a3 a7=>
 ((((!r1)=false)/\(decide (0<a))=true)->(IX (i64.wrap (a-1)) a3))/\∃p q:Nat,((((!r1)=false)/\(decide (0<a))=true)->(a2=some ⟨p,q,none⟩))/\
 ∃n,((((!r1)=false)/\(decide (0<a))=true)->aL c p (q+(i64.wrap (a-1)).toNat*2)=some (.string n))/\
 ∃o,((((!r1)=false)/\(decide (0<a))=true)->aL c f 0=some (.string o))/\
 IF ((!r1)||((decide (0<a))&&(!Op.bytesLess n.toList o.toList))) (
 K (.bool false) c) (
 g (i64.wrap (a+1)) c/\r (i64.wrap (a+1)) c<r a d)) (
 K (.bool true) d))):CF 226 ⟨[(A_sl w s l m)]⟩ H K:=cE 0x1d215612399251b4c [[(18,sI)]] h
theorem OK(h :
 AL H (jy a b) 157 λi n=>
 cB Tryz.prog (Instr.makeSlice 43 (aB 16) (aB 16)) n λo p=>
 ∃e f l,o=(.slice e f l)/\
 ∃(g:fj) (m:jj),g 0 p/\
 ∀c d,g c d->
 ID (c<8) (
 aO d i 0 λq=>
 ((0:Int)<=(i64.wrap (8*c)))/\
 IA (i64.wrap (7-c)) f e λr s=>
 ST d r (s+(i64.wrap (7-c)).toNat) [.int .u8 (u8.wrap (Int.fdiv (u64.wrap q) (2^(min (Int.toNat (i64.wrap (8*c))) (u64.bits)))))] λj=>
 rd_u j i 1 λt=>
 ((0:Int)<=(i64.wrap (8*c)))/\
 IA (i64.wrap (15-c)) f e λu v=>
 ST j u (v+(i64.wrap (15-c)).toNat) [.int .u8 (u8.wrap (Int.fdiv t (2^(min (Int.toNat (i64.wrap (8*c))) (u64.bits)))))] λk=>
 g (i64.wrap (c+1)) k/\m (i64.wrap (c+1)) k<m c d) (
 K (.slice e f l) d)):CF 223 ⟨[(A_iu a b)]⟩ H K:=cE 0x11215612399251144c [[(6,sI)]] h
def rN.code(c0b c0o c1b c1o:Nat)(rv:Value)(H:aC)(K:aC->Prop):Prop:=
 C_i 197 [rv] H λr H_=>
 ST H_ c0b c0o [(aB r)] λH_1=>
 aO H_1 c0b c0o λv=>
 ∀Jn:fM,(∀H_2,(K H_2)->Jn H_2)->
 IN (v=0) (
 ST H_1 c1b c1o EU λH_3=>
 Jn H_3) (
 Jn H_1)
theorem rN.defq{c d b a e H K:_}{u f:FrameMode}(j:(u=.returning/\e=.nilIface/\f=.returning)\/(u=bi e false/\f=bi e true))(i:rN.code c d b a e H K):cC Tryz.prog 210 (dv c d b a) u H λh k=>h=f/\K k:=
 y7 (X:=X) (an:=(.seq .reg (.seq .reg (.condJ [] .reg .no)))) X_P rH rI Tryz.func210 j (by kernel_rfl) i
def lH.l1(sb so:Nat)(agent:Int)(K KP:KE)(b b1 floorb flooro:Nat)(r5 r17:KQ)(r19:Int)(Inv1:Int->aC->Prop)(mu1:Int->aC->Nat)(t114:Int)(H_50:aC):Prop:=
 ID (t114<r19) (
 dT H_50 b 0 λc14=>
 mt 262 [(.agg #[(.pointer c14)]),.pointer r17] H_50 (λH_51=>
 Inv1 (i64.wrap (t114+1)) H_51/\mu1 (i64.wrap (t114+1)) H_51<mu1 t114 H_50) (λpn17 H_52=>
 KP pn17 H_52)) (
 gz H_50 sb (so+18) λv4=>
 MU 142 (.map v4) (aB agent) (.pointer r5) H_50 λH_53=>
 EV H_53 floorb flooro λl1=>
 ST H_53 b1 0 l1 λH_54=>
 EV H_54 b1 0 λl=>
 K (.agg ⟨l⟩) H_54)
def lH.r3(sb so:Nat)(agent:Int)(K KP:KE)(b b1 floorb flooro:Nat)(r5:KQ)(H_21:aC):Prop:=
 dT H_21 b 0 λc5=>
 dT H_21 b 0 λc6=>
 P_u 207 [(.agg #[(.pointer c5)])] H_21 (λr8 H_22=>
 bE H_22 b 0 [(.pointer c6)]/\
 P_i 201 [(.agg #[(.pointer c6)])] H_22 (λr9 H_24=>
 dT H_24 b 0 λc7=>
 P_i 200 (lF (.agg #[(.pointer c7)]) 8) H_24 (λr10 H_26=>
 ∃(Inv:nF) (mu:nG),Inv none 0 0 0 H_26/\
 ∀samplesa samplesn samplesc t71 H_28,Inv samplesa samplesn samplesc t71 H_28->
 ID (t71<r10) (
 dT H_28 b 0 λc8=>
 dT H_28 b 0 λc9=>
 dT H_28 b 0 λc10=>
 dT H_28 b 0 λc11=>
 P_i 201 [(.agg #[(.pointer c8)])] H_28 (λr11 H_29=>
 bE H_29 b 0 [(.pointer c11)]/\
 bE H_29 b 0 [(.pointer c10)]/\
 bE H_29 b 0 [(.pointer c9)]/\
 P_i 201 [(.agg #[(.pointer c9)])] H_29 (λr12 H_31=>
 bE H_31 b 0 [(.pointer c11)]/\
 bE H_31 b 0 [(.pointer c10)]/\
 P_i 201 [(.agg #[(.pointer c10)])] H_31 (λr13 H_33=>
 bE H_33 b 0 [(.pointer c11)]/\
 P_i 201 [(.agg #[(.pointer c11)])] H_33 (λr14 H_35=>
 AL H_35 (L_i4 r11 r12 r13 r14) 58 λb2 H_37=>
 AP #[267,267] 267 (fE samplesa samplesn samplesc (some ⟨b2,0,none⟩) 1 1) H_37 λsa sn sc H_38=>
 Inv sa sn sc (i64.wrap (t71+1)) H_38/\mu sa sn sc (i64.wrap (t71+1)) H_38<mu samplesa samplesn samplesc t71 H_28) (λpn12 H_36=>
 KP pn12 H_36)) (λpn11 H_34=>
 KP pn11 H_34)) (λpn10 H_32=>
 KP pn10 H_32)) (λpn9 H_30=>
 KP pn9 H_30)) (
 NN r5 (
 bC H_28 (aV r5) (aS r5) λv2=>
 C_i 261 [.pointer v2,.bool (decide (r8=1)),aB r9,.slice samplesa samplesn samplesc] H_28 λr15 H_39=>
 mt 203 [(aB r15)] H_39 (λH_40=>
 dT H_40 b 0 λc12=>
 aO H_40 sb (so+8) λv3=>
 P_i 201 [(.agg #[(.pointer c12)])] H_40 (λr16 H_42=>
 aL H_42 sb (so+8)=some (aB v3)/\
 CF 185 ⟨(fV r16 v3)⟩ H_42 λu18 H_44=>∃r17 r18,u18=(ib r17 r18)/\
 mt 203 [(aB r18)] H_44 (λH_45=>
 NN r5 (
 ST H_45 (aV r5) ((aS r5)+1) [(.pointer r17)] λH_47=>
 dT H_47 b 0 λc13=>
 P_i 200 (lF (.agg #[(.pointer c13)]) 256) H_47 (λr19 H_48=>
 ∃(Inv1:fj) (mu1:jj),Inv1 0 H_48/\
 ∀t114 H_50,Inv1 t114 H_50->lH.l1 sb so agent K KP b b1 floorb flooro r5 r17 r19 Inv1 mu1 t114 H_50) (λpn16 H_49=>
 KP pn16 H_49))) (λpn15 H_46=>
 KP pn15 H_46)) (λpn14 H_43=>
 KP pn14 H_43)) (λpn13 H_41=>
 KP pn13 H_41)))) (λpn8 H_27=>
 KP pn8 H_27)) (λpn7 H_25=>
 KP pn7 H_25)) (λpn6 H_23=>
 KP pn6 H_23)
def lH.r4(sb so:Nat)(agent:Int)(K KP:KE)(b b1:Nat)(r3:Int)(floorb flooro:Nat)(H_11:aC):Prop:=
 dT H_11 b 0 λc3=>
 P_u 207 [(.agg #[(.pointer c3)])] H_11 (λr4 H_12=>
 ST H_12 floorb (flooro+1) [(.bool (!decide ((aY .and .u64 r4 1)=0)))] λH_14=>
 ST H_14 floorb (flooro+2) [(.bool (!decide ((aY .and .u64 r4 2)=0)))] λH_15=>
 ST H_15 floorb (flooro+3) [(.bool (!decide ((aY .and .u64 r4 4)=0)))] λH_16=>
 C_p 145 [(PA sb so)] H_16 λr5 H_17=>
 dT H_17 b 0 λc4=>
 P_i 199 [(.agg #[(.pointer c4)])] H_17 (λr6 H_18=>
 NN r5 (
 ST H_18 (aV r5) ((aS r5)+2) [(aB r6)] λH_20=>
 NN r5 (
 aO H_20 (aV r5) ((aS r5)+2) λv1=>
 Q_b 138 (jO v1 (-1) 4611686018427387903) H_20 λr7=>
 ∀Jn1:fM,(∀H_21,lH.r3 sb so agent K KP b b1 floorb flooro r5 H_21->Jn1 H_21)->
 IF (!r7) (
 KP (.iface 50 (aB 10)) H_20) (
 Jn1 H_20)))) (λpn5 H_19=>
 KP pn5 H_19)) (λpn4 H_13=>
 KP pn4 H_13)
theorem OL(h :
 AL H [.pointer s] 388 λb x=>
 AL x tL 185 λy c=>
 bC c l (m+15) λd=>
 dT c b 0 λz=>
 dT c b 0 λp=>
 dT c b 0 λg=>
 P_i 201 [.agg #[.pointer z]] c (λa0 e=>
 bE e b 0 [.pointer g]/\
 bE e b 0 [.pointer p]/\
 aL e l (m+15)=some (.pointer d)/\
 P_i 201 [.agg #[.pointer p]] e (λr1 i=>
 bE i b 0 [.pointer g]/\
 aL i l (m+15)=some (.pointer d)/\
 P_i 201 [.agg #[.pointer g]] i (λr2 q=>
 aL q l (m+15)=some (.pointer d)/\
 C_i 260 (L_piv d a (A_i3 a0 r1 r2)) q λr3 a1=>
 mt 203 [aB r3] a1 (λf=>
 ∀o:J_n2HP,(∀u v w,lH.r4 l m a K KP b y r3 u v w->o u v w)->
 dT f b 0 λj=>
 aO f l (m+9) λk=>
 (P_i 198 (lF (.agg #[.pointer j]) k) f (λa2 a3=>
 AL a3 tL 185 λr a4=>
 ST a4 r 0 (tM a2 false false false) λa5=>
 o r 0 a5) (λa6 a7=>
 KP a6 a7))/\
 (AL f tL 185 λt n=>
 aL n l (m+9)=some (aB k)/\
 bE n b 0 [.pointer j]/\
 P_i 198 (lF (.agg #[.pointer j]) k) n (λa8 a9=>
 ST a9 t 0 (tM a8 false false false) λb0=>
 o t 0 b0) (λb1 b2=>
 KP b1 b2))) (λb3 b4=>
 KP b3 b4)) (λb5 b6=>
 KP b5 b6)) (λb7 b8=>
 KP b7 b8)) (λb9 c0=>
 KP b9 c0)):CP 202 ⟨[.agg #[.pointer s],PA l m,aB a]⟩ H K KP:=cP 0x1128111121749112156123992544111121561239925441c [[(114,sI)],[(12,sS),(71,sI)],[],[(7,sA)]] h
def rO.code(c0b c0o c1b c1o:Nat)(rv:Value)(H:aC)(K:aC->Prop):Prop:=
 C_i 197 [rv] H λr H_=>
 ∀Jn:fM,(∀H_1,(K H_1)->Jn H_1)->
 IN (r=0) (
 ST H_ c0b c0o [(.pointer none)] λH_2=>
 ST H_2 c1b c1o [(aB 10)] λH_3=>
 Jn H_3) (
 Jn H_)
theorem rO.defq{c d b a e H K:_}{u f:FrameMode}(j:(u=.returning/\e=.nilIface/\f=.returning)\/(u=bi e false/\f=bi e true))(i:rO.code c d b a e H K):cC Tryz.prog 196 (dv c d b a) u H λh k=>h=f/\K k:=
 y7 (X:=X) (an:=(.seq .reg (.condJ [] .reg .no))) X_P rH rI Tryz.func196 j (by kernel_rfl) i
def tP.r1(rb ro:Nat)(K:KE)(r r1 err:Int)(H_:aC):Prop:=
 eA H_ rb ro λva2 vn2 vc2=>
 C_b 250 (L_ai2 rb ro (i64.wrap (r1+r)) err) H_ λr3 H_1=>
 IF (!r3) (
 K (.string (⟨#[]⟩:Fa)) H_1) (
 (BD r1 (i64.wrap (r1+r)) vc2)/\
 ∃s:Fa,dm Tryz.prog (convert 43 9 (.slice (cq va2 r1.toNat vc2 1) (((i64.wrap (r1+r)).toNat)-r1.toNat) (vc2-r1.toNat))) H_1 (.string s)/\
 K (.string s) H_1)
theorem OM(h :
 eA H l m λf g i=>
 ∃b r1 r2,CQ 254 #[.slice f g i,aB a] H (V_i3 b r1 r2)/\
 (((decide (r2=0))=true)->True)/\
 gd_l ((decide (r2=0))=true) H l m λk j n=>
 ∀c:fj,(∀d e,tP.r1 l m K b r1 d e->c d e)->
 IF ((decide (r2=0))&&(decide ((i64.wrap ((j:Int)-r1))<b))) (
 c 15 H) (
 c r2 H)):CF 176 ⟨(L_ai l m a)⟩ H K:=cE 73575731676 [[(7,sI)]] h
theorem ON(h :
 AL H [PA l m] 141 λp b7=>
 AL b7 [aB a] 2 λb8 b9=>
 AL b9 [.slice none 0 0] 143 λf q=>
 bC q p 0 λc1=>
 C_f 56 [.pointer c1] q λr c2 b=>
 bI r X.calls=true/\
 ∀c:Loop,c.state=.ready->c.pending=none->
 (∀(b5:Os) (n:aC) (o:KE),(∃w x y z a0 a1 a2 a3 a4 a5,b5=(L_v2 (A_is w x) (rK y z a0 a1 a2 a3 a4 a5))/\
 n[b.size+1]?=some (.loop c)/\
 AL n (L_is 0 (⟨#[]⟩:Fa)) 154 λg c3=>
 ST c3 g 0 (L_is w x) λc4=>
 AL c4 kz 161 λs c5=>
 ST c5 s 0 (rJ y z a0 a1 a2 a3 a4 a5) λt=>
 t[b.size+1]?=some (.loop c)/\
 ∀d:aC,d=gI t (b.size+1) { c with state:=.busy }->
 aO d g 0 λc6=>
 aO d b8 0 λc7=>
 ID (c7<=c6) (
 d[b.size+1]?=some (.loop { c with state:=.busy })/\o (.bool false) (gI d (b.size+1) { c with state:=.done,pending:=some (.exit 0) })) (
 eA d f 0 λc8 c9 d0=>
 ∃c0 a6,bE d g 0 (L_is c0 a6)/\
 ∃a7 a8 a9 b0 b1 b2 b3 b4,bE d s 0 (rJ a7 a8 a9 b0 b1 b2 b3 b4)/\
 AL d (we c0 a6 a7 a8 a9 b0 b1 b2 b3 b4) 164 λd1 d2=>
 AP #[143,143] 143 (fE c8 c9 d0 (some ⟨d1,0,none⟩) 1 1) d2 λd3 d4 d5 d6=>
 ST d6 f 0 [.slice d3 d4 d5] λi=>
 bC i p 0 λk=>
 NN k (
 gz i (aV k) ((aS k)+1) λd7=>
 wg i g 0 λd8=>
 cB Tryz.prog (Builtin.delete_ #[272,154] 0 #[.map d7,.agg ⟨d8⟩]) i λe5 u=>
 u[b.size+1]?=some (.loop { c with state:=.busy })/\o (.bool true) (gI u (b.size+1) c))))->fI Tryz.prog (b.size+1) b5 n o)->
 CF r ⟨(.func (.yield (b.size+1)) #[] #[])::c2⟩ ((b.push (.deferred (some []))).push (.loop c)) λe6 v=>∃(b6:LoopState) (j:Option Code),b6≠.busy/\v[b.size+1]?=some (.loop { c with state:=b6,pending:=j })/\
 ∀e:aC,e=gI v (b.size+1) { c with state:=.exhausted,pending:=j }->
 ((j=none/\
 eA e f 0 λd9 e0 e1=>
 e[b.size]?=some (.deferred (some []))/\
 K (.slice d9 e0 e1) (e.setIfInBounds b.size (.deferred none)))\/
 j=(some (.exit 0))/\
 eA e f 0 λe2 e3 e4=>
 e[b.size]?=some (.deferred (some []))/\
 K (.slice e2 e3 e4) (e.setIfInBounds b.size (.deferred none)))):CF 159 ⟨(L_ai l m a)⟩ H K:=cFE (.r (.r (.seq (.r (.blk (.rng [.agg [.int .i64, .str],.agg [.int .i64, .int .i64, .int .u64, .int .i64, .int .i64, .int .i64, .int .i64, .vec .i64 65]] [none,(some (.exit 0))] (.r .reg) (.blk (.seq (.r (.cond .no .no)) (.r .reg)))))) (.r .no)))) h
def zf.y1(b b1 leastb leasto foundb foundo:Nat)(H_4:aC)(R:Loop)(vs:Os)(H_5:aC)(K_:KE):Prop:=
 ∃y y0 y1 y2 y3,vs=(L_iv y (A_ib3 y0 y1 y2 y3))/\
 H_5[H_4.size+1]?=some (.loop R)/\
 H_5[H_4.size+1]?=some (.loop R)/\
 ∀H_6:aC,H_6=gI H_5 (H_4.size+1) { R with state:=.busy }->
 bC H_6 b 0 λv7=>
 C_i 151 (L_piv v7 y (.func (.func 247) #[] #[(PA b1 0),(PA b 0),(PA foundb foundo),(PA leastb leasto)])) H_6 λr1 H_7=>
 H_7[H_4.size+1]?=some (.loop { R with state:=.busy })/\K_ (.bool true) (gI H_7 (H_4.size+1) R)
theorem OO(h :
 AL H [PA l m] 140 λc b7=>
 AL b7 [aB a] 2 λd e=>
 aO e d 0 λb8=>
 Q_b 231 [aB b8] e λn=>
 gd_i ((!n)=false) e d 0 λb9=>
 ∃t,(((!n)=false)->aL e c 0=some (.pointer t))/\
 (((!n)=false)->isA t)/\
 gd_i ((!n)=false) e (aV t) ((aS t)+1) λc0=>
 IF ((!n)||(decide (b9<c0))) (
 K (aB 11) e) (
 bC e c 0 λu=>
 aO e d 0 λc1=>
 NN u (
 ST e (aV u) ((aS u)+1) [aB c1] λo=>
 ∀a0:J_n4HP,(∀x y b1 b2 z,(bC z c 0 λc2=>
 C_f 246 [.pointer c2] z λa2 c3 f=>
 bI a2 X.calls=true/\
 ∀j:Loop,j.state=.ready->j.pending=none->
 (∀(b3:Os) (b4:aC) (b5:KE),zf.y1 c d x y b1 b2 f j b3 b4 b5->fI Tryz.prog (f.size+1) b3 b4 b5)->
 CF a2 ⟨(.func (.yield (f.size+1)) #[] #[])::c3⟩ ((f.push (.deferred (some []))).push (.loop j)) λc8 a3=>∃(b6:LoopState) (a1:Option Code),b6≠.busy/\a3[f.size+1]?=some (.loop { j with state:=b6,pending:=a1 })/\
 ∀k:aC,k=gI a3 (f.size+1) { j with state:=.exhausted,pending:=a1 }->
 a1=none/\
 bC k c 0 λv=>
 bC k c 0 λw=>
 NN w (
 aO k (aV w) ((aS w)+2) λa4=>
 aO k x y λa5=>
 NN v (
 ST k (aV v) ((aS v)+2) [aB (if a5>a4 then a5 else a4)] λa6=>
 a6[f.size]?=some (.deferred (some []))/\
 K (aB 0) (a6.setIfInBounds f.size (.deferred none)))))->a0 x y b1 b2 z)->
 aO o d 0 λg=>
 bC o c 0 λb=>
 NN b (
 aO o (aV b) (aS b) λi=>
 (AL o [aB 0] 2 λa7 p=>
 aL p (aV b) (aS b)=some (aB i)/\
 aL p c 0=some (.pointer b)/\
 aL p d 0=some (aB g)/\
 AL p [.bool false] 4 λa8 q=>
 aL q (aV b) (aS b)=some (aB i)/\
 aL q c 0=some (.pointer b)/\
 aL q d 0=some (aB g)/\
 ST q a7 0 [aB (i64.wrap (g-i))] λc4=>
 ST c4 a8 0 [.bool false] λc5=>
 a0 a7 0 a8 0 c5)/\
 (AL o [.bool false] 4 λa9 r=>
 aL r (aV b) (aS b)=some (aB i)/\
 aL r c 0=some (.pointer b)/\
 aL r d 0=some (aB g)/\
 AL r [aB 0] 2 λb0 s=>
 aL s (aV b) (aS b)=some (aB i)/\
 aL s c 0=some (.pointer b)/\
 aL s d 0=some (aB g)/\
 ST s b0 0 [aB (i64.wrap (g-i))] λc6=>
 ST c6 a9 0 [.bool false] λc7=>
 a0 b0 0 a9 0 c7))))):CF 158 ⟨(L_ai l m a)⟩ H K:=cFE (.r (.seq (.r (.cond (.r .no) .no)) (.r (.seq (.regJ [(5,sA),(6,sA)]) (.seq (.r (.blk (.rng [sI,.agg [.int .i64, .bool, .bool, .bool]] [none] .reg (.blk .reg)))) (.r (.r .no))))))) h
theorem OP(h :
 C_l 237 [.slice s l m] H λc b g i=>
 ∃(d:fj) (f:jj),d 0 i/\
 ∀t8 a,d t8 a->
 ID (t8<b) (
 IA t8 b c λj k=>
 eA a j (k+t8.toNat*4+2+1) λn o p=>
 C_l 238 [.slice n o p] a λq r t u=>
 IA t8 b c λv w=>
 ST u v (w+t8.toNat*4+2+1) [.slice q r t] λe=>
 d (i64.wrap (t8+1)) e/\f (i64.wrap (t8+1)) e<f t8 a) (
 K (.slice c b g) a)):CF 154 ⟨[.slice s l m]⟩ H K:=cE 0x1121561239925144c [[(8,sI)]] h
theorem OQ(h :
 IF ((decide (a<0))||(decide (2199023255552<a))) (
 K (V_ni n) H) (
 ∃(z:oS) (b3:tJ),z 0 0 H/\
 ∀d b f,z d b f->
 ID (b<n) (
 IA b n s λb5 b6=>
 rL f b5 (b6+b.toNat*4) λb7=>
 AL f wh 99 λa1 b8=>
 ST b8 a1 0 b7 λr=>
 gz r l (m+2) λb9=>
 EW 291 (.map b9) (aB (i64.wrap (a+b))) r λc0 c1=>
 AL r wh 99 λc2 c3=>
 ST c3 c2 0 c0 λc=>
 aO c l m λc4=>
 ∀x:fj,(∀v w,(z v (i64.wrap (b+1)) w/\b3 v (i64.wrap (b+1)) w<b3 d b f)->x v w)->
 IF ((decide ((i64.wrap (a+b))<c4))||c1) (
 x d c) (
 aO c l m λc5=>
 aO c l (m+1) λc6=>
 ∀y:fj,(∀b1 b2,(x b1 b2)->y b1 b2)->
 ID ((i64.wrap (c5+c6))<=(i64.wrap (a+b))) (
 y (i64.wrap (d+1)) c) (
 gz c l (m+2) λc7=>
 rL c a1 0 λc8=>
 MU 291 (.map c7) (aB (i64.wrap (a+b))) (.agg ⟨c8⟩) c λc9=>
 y d c9))) (
 ∃(a0:nF) (b4:nG),a0 none 0 0 d f/\
 ∀k p q g e,a0 k p q g e->
 gz e l (m+2) λt=>
 aO e l m λu=>
 EW 291 (.map t) (aB u) e λa2 a3=>
 AL e wh 99 λa4 i=>
 dm Tryz.prog (Instr.lookup 291 (.map t) (aB u) true) i (mq (.agg ⟨a2⟩) a3)/\
 aL i l m=some (aB u)/\
 aL i l (m+2)=some (.map t)/\
 ST i a4 0 a2 λj=>
 IF (!a3) (
 K (V_li k p q g) j) (
 gz j l (m+2) λd0=>
 aO j l m λd1=>
 cB Tryz.prog (Builtin.delete_ #[291,2] 0 #[.map d0,aB d1]) j λd6 a5=>
 rL a5 a4 0 λd2=>
 AL a5 d2 99 λd3 d4=>
 AP #[59,59] 59 (fE k p q (some ⟨d3,0,none⟩) 1 1) d4 λa6 a7 a8 a9=>
 aO a9 l m λd5=>
 ST a9 l m [aB (i64.wrap (d5+1))] λb0=>
 a0 a6 a7 a8 g b0/\b4 a6 a7 a8 g b0<b4 k p q g e)))):CF 153 ⟨(L_ail l m a s n o)⟩ H K:=cE 0x1d215612399251115179174445651d114 [[(6,sS),(7,sI)],[(7,sI)],[(7,sI)],[(7,sI),(25,sI)]] h
def zg.r1(K:KE)(b1:Nat)(r3 v2 hi:Int)(H_7:aC):Prop:=
 ID ((if 4611686018427387903<hi then 4611686018427387903 else hi)<(if 0>(i64.wrap (v2+r3)) then 0 else (i64.wrap (v2+r3)))) (
 ST H_7 b1 0 (fV 0 0) λH_8=>
 rM H_8 b1 0 λl2=>
 K (ei (.agg ⟨l2⟩) 13) H_8) (
 ST H_7 b1 0 (fV (if 0>(i64.wrap (v2+r3)) then 0 else (i64.wrap (v2+r3))) (if 4611686018427387903<hi then 4611686018427387903 else hi)) λH_9=>
 rM H_9 b1 0 λl3=>
 K (ei (.agg ⟨l3⟩) 0) H_9)
theorem OR(h :
 AL H (L_i4 a b c d) 58 λi t=>
 AL t (fV 0 0) 89 λj m=>
 qp m i 0 λu=>
 C_b 139 [.agg ⟨u⟩] m λv g=>
 IF (!v) (
 ST g j 0 (fV 0 0) λn=>
 rM n j 0 λw=>
 K (ei (.agg ⟨w⟩) 10) n) (
 Q_b 228 [aB e] g λr1=>
 ∃r2,(((!r1)=false)->CQ 232 #[aB f] g (.bool r2))/\
 IF ((!r1)||(!r2)) (
 ST g j 0 (fV 0 0) λo=>
 rM o j 0 λx=>
 K (ei (.agg ⟨x⟩) 11) o) (
 aO g i 1 λy=>
 CF 233 ⟨(fV (i64.wrap (e-y)) f)⟩ g λz p=>∃r3 r4,z=(jN r3 r4)/\
 aO p i 2 λa0=>
 CF 234 ⟨(fV (i64.wrap (e-a0)) f)⟩ p λa1 k=>∃r5 r6,a1=(jN r5 r6)/\
 aO k i 0 λa2=>
 aO k i 3 λa3=>
 ∃r7 q,CQ 235 #[aB a3,aB r5] k (jN r7 q)/\
 ∀l:fj,(∀r s,zg.r1 K j r3 a2 r s->l r s)->
 IN (q=0) (
 l 4611686018427387903 k) (
 l r7 k)))):CF 148 ⟨(L_vi2 (A_i4 a b c d) e f)⟩ H K:=cE 0x1dd1111217491dc [[(13,sI)]] h
theorem OS(h :
 AL H EU 61 λa c7=>
 AL c7 [aB 0] 50 λb c8=>
 C_p 168 [.slice s l m] c8 λc9 d0=>
 AL d0 [.pointer none] 388 λe d1=>
 ST d1 e 0 [.pointer c9] λa2=>
 dT a2 e 0 λd2=>
 P_u 207 [.agg #[.pointer d2]] a2 (λr1 a3=>
 ∀c3:fM,(∀b6,(ST b6 a 0 [aB (i64.wrap r1)] λd3=>
 C_l 136 [PA a 0] d3 λd4 a4 k6 d5=>
 ∃(a0:fj) (c5:jj),a0 0 d5/\
 ∀d c,a0 d c->
 ID (d<a4) (
 IA d a4 d4 λd6 d7=>
 bC c d6 (d7+d.toNat) λi=>
 dT c e 0 λd8=>
 P_i 201 [.agg #[.pointer d8]] c (λr2 d9=>
 NN i (
 ST d9 (aV i) (aS i) [aB r2] λa5=>
 a0 (i64.wrap (d+1)) a5/\c5 (i64.wrap (d+1)) a5<c5 d c)) (λa6 e0=>
 bI 210 X.calls=true/\
 cC Tryz.prog 210 (dv b 0 a 0) (bi a6 false) e0 λe1 j=>e1=bi a6 true/\
 nH j a 0 λe2=>
 aO j b 0 λe3=>
 K (ei (.agg ⟨e2⟩) e3) j)) (
 aO c a 0 λe4=>
 ∀z:fM,(∀x,(bC x e 0 λe5=>
 C_i 177 [.pointer e5] x λr3 e6=>
 mt 203 [aB r3] e6 (λa7=>
 nH a7 a 0 λe7=>
 C_b 64 [.agg ⟨e7⟩] a7 λr4 a8=>
 ∀c4:fM,(∀y,(nH y a 0 λe8=>
 ST y a 0 e8 λe9=>
 ST e9 b 0 [aB 0] λf0=>
 bI 210 X.calls=true/\
 cC Tryz.prog 210 (dv b 0 a 0) .returning f0 λf1 k=>f1=.returning/\
 nH k a 0 λf2=>
 aO k b 0 λf3=>
 K (ei (.agg ⟨f2⟩) f3) k)->c4 y)->
 IF (!r4) (
 bI 210 X.calls=true/\
 cC Tryz.prog 210 (dv b 0 a 0) (bi (.iface 50 (aB 10)) false) a8 λf4 n=>f4=bi (.iface 50 (aB 10)) true/\
 nH n a 0 λf5=>
 aO n b 0 λf6=>
 K (ei (.agg ⟨f5⟩) f6) n) (
 c4 a8)) (λa9 f7=>
 bI 210 X.calls=true/\
 cC Tryz.prog 210 (dv b 0 a 0) (bi a9 false) f7 λf8 o=>f8=bi a9 true/\
 nH o a 0 λf9=>
 aO o b 0 λg0=>
 K (ei (.agg ⟨f9⟩) g0) o))->z x)->
 ID (e4=4) (
 dT c e 0 λg1=>
 P_i 200 (lF (.agg #[.pointer g1]) 64) c (λr5 g2=>
 ∃(a1:fj) (c6:jj),a1 0 g2/\
 ∀g f,a1 g f->
 ID (g<r5) (
 eA f a 11 λp q r=>
 dT f e 0 λg3=>
 CP 211 ⟨[.agg #[.pointer g3]]⟩ f (λg4 b0=>∃b7 b8 b9 c0 c1 c2,g4=(A_i2sl b7 b8 b9 c0 c1 c2)/\
 aL b0 a 11=some (.slice p q r)/\
 AL b0 (L_i2sl b7 b8 b9 c0 c1 c2) 99 λg5 b1=>
 aL b1 a 11=some (.slice p q r)/\
 AP #[59,59] 59 (fE p q r (some ⟨g5,0,none⟩) 1 1) b1 λg6 g7 g8 g9=>
 ST g9 a 11 [.slice g6 g7 g8] λb2=>
 a1 (i64.wrap (g+1)) b2/\c6 (i64.wrap (g+1)) b2<c6 g f) (λb3 i0=>
 bI 210 X.calls=true/\
 cC Tryz.prog 210 (dv b 0 a 0) (bi b3 false) i0 λi1 t=>i1=bi b3 true/\
 nH t a 0 λi2=>
 aO t b 0 λi3=>
 K (ei (.agg ⟨i2⟩) i3) t)) (
 z f)) (λb4 i4=>
 bI 210 X.calls=true/\
 cC Tryz.prog 210 (dv b 0 a 0) (bi b4 false) i4 λi5 u=>i5=bi b4 true/\
 nH u a 0 λi6=>
 aO u b 0 λi7=>
 K (ei (.agg ⟨i6⟩) i7) u)) (
 z c)))->c3 b6)->
 IF ((decide (r1<1))||(decide (7<r1))) (
 bI 210 X.calls=true/\
 cC Tryz.prog 210 (dv b 0 a 0) (bi (.iface 50 (aB 16)) false) a3 λi9 v=>i9=bi (.iface 50 (aB 16)) true/\
 nH v a 0 λk0=>
 aO v b 0 λk1=>
 K (ei (.agg ⟨k0⟩) k1) v) (
 c3 a3)) (λb5 k2=>
 bI 210 X.calls=true/\
 cC Tryz.prog 210 (dv b 0 a 0) (bi b5 false) k2 λk3 w=>k3=bi b5 true/\
 nH w a 0 λk4=>
 aO w b 0 λk5=>
 K (ei (.agg ⟨k4⟩) k5) w)):CF 107 ⟨[.slice s l m]⟩ H K:=cE 0x242424242247492422456242399252444224724562423992544924224749249 [[],[(40, sI)],[],[(26, sI)],[]] h
def mA.l2(ba:KQ)(bn bc:Nat)(K:KE)(b1 b2 b3:Nat)(Inv2:Int->aC->Prop)(mu2:Int->aC->Nat)(n:Int)(H_54:aC):Prop:=
 ID (0<n) (
 dT H_54 b3 0 λc19=>
 EX 205 [(.agg #[(.pointer c19)])] H_54 (λl5 l6 H_55=>
 AL H_55 (L_is 0 (⟨#[]⟩:Fa)) 154 λb7 H_57=>
 AL H_57 kz 161 λb8 H_58=>
 ST H_58 b7 0 l5 λH_59=>
 ST H_59 b8 0 l6 λH_60=>
 bC H_60 b1 0 λv12=>
 bC H_60 b1 0 λv13=>
 NN v13 (
 eA H_60 (aV v13) ((aS v13)+19) λva vn vc=>
 ∃c0_4 c1_4,bE H_60 b7 0 (L_is c0_4 c1_4)/\
 ∃c0_5 c1_5 c2_3 c3_3 c4_3 c5_3 c6_3 c7_3,bE H_60 b8 0 (rJ c0_5 c1_5 c2_3 c3_3 c4_3 c5_3 c6_3 c7_3)/\
 AL H_60 (we c0_4 c1_4 c0_5 c1_5 c2_3 c3_3 c4_3 c5_3 c6_3 c7_3) 164 λb9 H_61=>
 aL H_61 (aV v13) ((aS v13)+19)=some (.slice va vn vc)/\
 aL H_61 b1 0=some (.pointer v13)/\
 aL H_61 b1 0=some (.pointer v12)/\
 AP #[143,143] 143 (fE va vn vc (some ⟨b9,0,none⟩) 1 1) H_61 λsa sn sc H_62=>
 aL H_62 b1 0=some (.pointer v12)/\
 NN v12 (
 ST H_62 (aV v12) ((aS v12)+19) [(.slice sa sn sc)] λH_63=>
 Inv2 (u64.wrap (n-1)) H_63/\mu2 (u64.wrap (n-1)) H_63<mu2 n H_54))) (λpn13 H_56=>
 bI 196 X.calls=true/\
 cC Tryz.prog 196 (dv b1 0 b2 0) (bi pn13 false) H_56 λu22 H_64=>u22=bi pn13 true/\
 bC H_64 b1 0 λres10=>
 aO H_64 b2 0 λres11=>
 K (ib res10 res11) H_64)) (
 bC H_54 b3 0 λv14=>
 C_i 177 [(.pointer v14)] H_54 λr14 H_65=>
 mt 203 [(aB r14)] H_65 (λH_66=>
 bC H_66 b1 0 λv15=>
 C_l 17 [(.pointer v15)] H_66 λra rn rc H_68=>
 C_b 208 (fE ra rn rc ba bn bc) H_68 λr15 H_69=>
 ∀Jn:fM,(∀H_70,(bC H_70 b1 0 λv16=>
 ST H_70 b1 0 [(.pointer v16)] λH_71=>
 ST H_71 b2 0 [(aB 0)] λH_72=>
 bI 196 X.calls=true/\
 cC Tryz.prog 196 (dv b1 0 b2 0) .returning H_72 λu27 H_73=>u27=.returning/\
 bC H_73 b1 0 λres12=>
 aO H_73 b2 0 λres13=>
 K (ib res12 res13) H_73)->Jn H_70)->
 IF (!r15) (
 bI 196 X.calls=true/\
 cC Tryz.prog 196 (dv b1 0 b2 0) (bi (.iface 50 (aB 10)) false) H_69 λu28 H_74=>u28=bi (.iface 50 (aB 10)) true/\
 bC H_74 b1 0 λres14=>
 aO H_74 b2 0 λres15=>
 K (ib res14 res15) H_74) (
 Jn H_69)) (λpn14 H_67=>
 bI 196 X.calls=true/\
 cC Tryz.prog 196 (dv b1 0 b2 0) (bi pn14 false) H_67 λu29 H_75=>u29=bi pn14 true/\
 bC H_75 b1 0 λres16=>
 aO H_75 b2 0 λres17=>
 K (ib res16 res17) H_75))
def mA.l3(ba:KQ)(bn bc:Nat)(K:KE)(b1 b2 b3:Nat)(r11:Int)(Inv1:Int->aC->Prop)(mu1:Int->aC->Nat)(t76:Int)(H_40:aC):Prop:=
 ID (t76<r11) (
 dT H_40 b3 0 λc17=>
 EX 205 [(.agg #[(.pointer c17)])] H_40 (λl3 l4 H_41=>
 AL H_41 (L_is 0 (⟨#[]⟩:Fa)) 154 λb5 H_43=>
 AL H_43 kz 161 λb6 H_44=>
 ST H_44 b5 0 l3 λH_45=>
 ST H_45 b6 0 l4 λH_46=>
 bC H_46 b1 0 λv10=>
 NN v10 (
 bC H_46 (aV v10) ((aS v10)+17) λv11=>
 wg H_46 b5 0 λl2=>
 mr H_46 b6 0 λl1=>
 C_i 206 [.pointer v11,(.agg ⟨l2⟩),(.agg ⟨l1⟩)] H_46 λr12 H_47=>
 mt 203 [(aB r12)] H_47 (λH_48=>
 Inv1 (i64.wrap (t76+1)) H_48/\mu1 (i64.wrap (t76+1)) H_48<mu1 t76 H_40) (λpn11 H_49=>
 bI 196 X.calls=true/\
 cC Tryz.prog 196 (dv b1 0 b2 0) (bi pn11 false) H_49 λu18 H_50=>u18=bi pn11 true/\
 bC H_50 b1 0 λres6=>
 aO H_50 b2 0 λres7=>
 K (ib res6 res7) H_50))) (λpn10 H_42=>
 bI 196 X.calls=true/\
 cC Tryz.prog 196 (dv b1 0 b2 0) (bi pn10 false) H_42 λu19 H_51=>u19=bi pn10 true/\
 bC H_51 b1 0 λres8=>
 aO H_51 b2 0 λres9=>
 K (ib res8 res9) H_51)) (
 dT H_40 b3 0 λc18=>
 P_u 207 [(.agg #[(.pointer c18)])] H_40 (λr13 H_52=>
 ∃(Inv2:fj) (mu2:jj),Inv2 r13 H_52/\
 ∀n H_54,Inv2 n H_54->mA.l2 ba bn bc K b1 b2 b3 Inv2 mu2 n H_54) (λpn12 H_53=>
 bI 196 X.calls=true/\
 cC Tryz.prog 196 (dv b1 0 b2 0) (bi pn12 false) H_53 λu30 H_76=>u30=bi pn12 true/\
 bC H_76 b1 0 λres18=>
 aO H_76 b2 0 λres19=>
 K (ib res18 res19) H_76))
def mA.l4(ba:KQ)(bn bc:Nat)(K:KE)(b1 b2 b3:Nat)(r6 r7:Int)(b4:Nat)(r8:Int)(Inv:Int->aC->Prop)(mu:Int->aC->Nat)(t54:Int)(H_27:aC):Prop:=
 ID (t54<r8) (
 dT H_27 b3 0 λc14=>
 P_i 201 [(.agg #[(.pointer c14)])] H_27 (λr9 H_28=>
 dT H_28 b3 0 λc15=>
 bC H_28 b1 0 λv7=>
 CP 202 ⟨[(.agg #[(.pointer c15)]),.pointer v7,aB r9]⟩ H_28 (λu9 H_30=>∃r0 r1_1 r2_1 r3_1,u9=(A_ib3 r0 r1_1 r2_1 r3_1)/\
 MU 250 (.map (some b4)) (aB r9) (A_ib3 r0 r1_1 r2_1 r3_1) H_30 λH_32=>
 Inv (i64.wrap (t54+1)) H_32/\mu (i64.wrap (t54+1)) H_32<mu t54 H_27) (λpn7 H_31=>
 bI 196 X.calls=true/\
 cC Tryz.prog 196 (dv b1 0 b2 0) (bi pn7 false) H_31 λu10 H_33=>u10=bi pn7 true/\
 bC H_33 b1 0 λres2=>
 aO H_33 b2 0 λres3=>
 K (ib res2 res3) H_33)) (λpn6 H_29=>
 bI 196 X.calls=true/\
 cC Tryz.prog 196 (dv b1 0 b2 0) (bi pn6 false) H_29 λu11 H_34=>u11=bi pn6 true/\
 bC H_34 b1 0 λres4=>
 aO H_34 b2 0 λres5=>
 K (ib res4 res5) H_34)) (
 bC H_27 b1 0 λv8=>
 NN v8 (
 bC H_27 (aV v8) ((aS v8)+16) λv9=>
 C_i 204 [.pointer v9,aB r6,aB r7,.map (some b4)] H_27 λr10 H_35=>
 mt 203 [(aB r10)] H_35 (λH_36=>
 dT H_36 b3 0 λc16=>
 P_i 200 (lF (.agg #[(.pointer c16)]) 1024) H_36 (λr11 H_38=>
 ∃(Inv1:fj) (mu1:jj),Inv1 0 H_38/\
 ∀t76 H_40,Inv1 t76 H_40->mA.l3 ba bn bc K b1 b2 b3 r11 Inv1 mu1 t76 H_40) (λpn9 H_39=>
 bI 196 X.calls=true/\
 cC Tryz.prog 196 (dv b1 0 b2 0) (bi pn9 false) H_39 λu31 H_77=>u31=bi pn9 true/\
 bC H_77 b1 0 λres20=>
 aO H_77 b2 0 λres21=>
 K (ib res20 res21) H_77)) (λpn8 H_37=>
 bI 196 X.calls=true/\
 cC Tryz.prog 196 (dv b1 0 b2 0) (bi pn8 false) H_37 λu32 H_78=>u32=bi pn8 true/\
 bC H_78 b1 0 λres22=>
 aO H_78 b2 0 λres23=>
 K (ib res22 res23) H_78)))
theorem OT(h :
 AL H [aB a,aB b,aB c,aB d,aB e,aB f,aB g,aB i,aB j] 23 λd6 d7=>
 AL d7 [.pointer none] 40 λk d8=>
 AL d8 [aB 0] 50 λn b0=>
 ∃c4 c5 c6 c7 c8 c9 d0 d1 d2,bE b0 d6 0 [aB c4,aB c5,aB c6,aB c7,aB c8,aB c9,aB d0,aB d1,aB d2]/\
 CF 102 ⟨[(A_i9 c4 c5 c6 c7 c8 c9 d0 d1 d2)]⟩ b0 λd9 e0=>∃d3 r1,d9=(ib d3 r1)/\
 ST e0 k 0 [.pointer d3] λe1=>
 ST e1 n 0 [aB r1] λx=>
 aO x n 0 λe2=>
 IN (e2=0) (
 aO x n 0 λb1=>
 ST x k 0 [.pointer none] λb2=>
 aL b2 n 0=some (aB b1)/\
 ST b2 n 0 [aB b1] λz=>
 bC z k 0 λe3=>
 aO z n 0 λe4=>
 K (ib e3 e4) z) (
 C_p 168 [.slice s l m] x λr2 e5=>
 AL e5 [.pointer none] 388 λo e6=>
 ST e6 o 0 [.pointer r2] λq=>
 bC q k 0 λt=>
 bC q k 0 λr=>
 bC q k 0 λp=>
 dT q o 0 λe7=>
 dT q o 0 λb3=>
 dT q o 0 λa0=>
 P_i 198 (lF (.agg #[.pointer e7]) 4611686018427387903) q (λr3 u=>
 bE u o 0 [.pointer a0]/\
 bE u o 0 [.pointer b3]/\
 aL u k 0=some (.pointer p)/\
 aL u k 0=some (.pointer r)/\
 aL u k 0=some (.pointer t)/\
 P_i 198 (lF (.agg #[.pointer b3]) 1099511627776) u (λr4 v=>
 bE v o 0 [.pointer a0]/\
 aL v k 0=some (.pointer p)/\
 aL v k 0=some (.pointer r)/\
 aL v k 0=some (.pointer t)/\
 P_i 198 (lF (.agg #[.pointer a0]) 1099511627776) v (λr5 y=>
 aL y k 0=some (.pointer p)/\
 aL y k 0=some (.pointer r)/\
 aL y k 0=some (.pointer t)/\
 NN t (
 ST y (aV t) ((aS t)+9) [aB r3] λa1=>
 aL a1 k 0=some (.pointer p)/\
 aL a1 k 0=some (.pointer r)/\
 NN r (
 ST a1 (aV r) ((aS r)+10) [aB r4] λb4=>
 aL b4 k 0=some (.pointer p)/\
 NN p (
 ST b4 (aV p) ((aS p)+11) [aB r5] λw=>
 dT w o 0 λe8=>
 bC w k 0 λa2=>
 NN a2 (
 aO w (aV a2) ((aS a2)+9) λe9=>
 dT w o 0 λb5=>
 P_i 198 (lF (.agg #[.pointer e8]) e9) w (λr6 b6=>
 bE b6 o 0 [.pointer b5]/\
 P_i 199 [.agg #[.pointer b5]] b6 (λr7 f0=>
 NM f0 λf1 b7=>
 dT b7 o 0 λf2=>
 P_i 200 (lF (.agg #[.pointer f2]) 64) b7 (λf3 f4=>
 ∃(a9:fj) (k0:jj),a9 0 f4/\
 ∀d4 d5,a9 d4 d5->mA.l4 s l m K k n o r6 r7 f1 f3 a9 k0 d4 d5) (λb8 f5=>
 bI 196 X.calls=true/\
 cC Tryz.prog 196 (dv k 0 n 0) (bi b8 false) f5 λf6 a3=>f6=bi b8 true/\
 bC a3 k 0 λf7=>
 aO a3 n 0 λf8=>
 K (ib f7 f8) a3)) (λb9 f9=>
 bI 196 X.calls=true/\
 cC Tryz.prog 196 (dv k 0 n 0) (bi b9 false) f9 λg0 a4=>g0=bi b9 true/\
 bC a4 k 0 λg1=>
 aO a4 n 0 λg2=>
 K (ib g1 g2) a4)) (λc0 g3=>
 bI 196 X.calls=true/\
 cC Tryz.prog 196 (dv k 0 n 0) (bi c0 false) g3 λg4 a5=>g4=bi c0 true/\
 bC a5 k 0 λg5=>
 aO a5 n 0 λg6=>
 K (ib g5 g6) a5)))))) (λc1 g7=>
 bI 196 X.calls=true/\
 cC Tryz.prog 196 (dv k 0 n 0) (bi c1 false) g7 λg8 a6=>g8=bi c1 true/\
 bC a6 k 0 λg9=>
 aO a6 n 0 λi0=>
 K (ib g9 i0) a6)) (λc2 i1=>
 bI 196 X.calls=true/\
 cC Tryz.prog 196 (dv k 0 n 0) (bi c2 false) i1 λi2 a7=>i2=bi c2 true/\
 bC a7 k 0 λi3=>
 aO a7 n 0 λi4=>
 K (ib i3 i4) a7)) (λc3 i5=>
 bI 196 X.calls=true/\
 cC Tryz.prog 196 (dv k 0 n 0) (bi c3 false) i5 λi6 a8=>i6=bi c3 true/\
 bC a8 k 0 λi7=>
 aO a8 n 0 λi9=>
 K (ib i7 i9) a8))):CF 103 ⟨(L_vl (A_i9 a b c d e f g i j) s l m)⟩ H K:=cE 0x24242243249924242424242245624239925244424224562423992524442245622439925244424224749249 [[],[(13, sU)],[(76, sI)],[(54, sI)]] h
def zh.r1(rb ro:Nat)(K:KE)(ra1:KQ)(rn1 rc1:Nat)(H_3:aC):Prop:=
 bC H_3 rb ro λv3=>
 aO H_3 rb (ro+2) λv4=>
 AL H_3 [(.slice ra1 rn1 rc1)] 43 λb H_4=>
 aL H_4 rb (ro+2)=some (aB v4)/\
 aL H_4 rb ro=some (.pointer v3)/\
 C_i 193 (L_pil v3 v4 (some ⟨b,0,none⟩) 1 1) H_4 λr2 H_5=>
 IN (r2=0) (
 K (jN (-1) r2) H_5) (
 aO H_5 rb (ro+3) λv5=>
 ST H_5 rb (ro+3) [(aB (i64.wrap (v5+1)))] λH_6=>
 aO H_6 rb (ro+3) λv6=>
 K (jN (i64.wrap (v6-1)) 0) H_6)
theorem OU(h :
 C_l 191 [.slice s n o] H λk p q r=>
 tK 190 [(A_il a k p q)] r λt f u g b=>
 IN (g=0) (
 K (jN (-1) g) b) (
 bC b l m λv=>
 aO b l (m+2) λw=>
 tK 192 (kA v w) b λz c a0 r1 d=>
 (((decide (0<(c:Int)))=true)->True)/\
 gd_i ((decide (0<(c:Int)))=true) d l (m+1) λx=>
 ∀e:fM,(∀j,zh.r1 l m K t f u j->e j)->
 IF ((decide (0<(c:Int)))&&(decide (x<(i64.wrap ((c:Int)+(f:Int)))))) (
 CF 95 ⟨[PA l m]⟩ d λy i=>∃r3 r4,y=(jN r3 r4)/\
 IN (r4=0) (
 K (jN (-1) r4) i) (
 e i)) (
 e d))):CF 96 ⟨(L_ail l m a s n o)⟩ H K:=cE 80240258818644764 [[]] h
theorem OV(h :
 ID ((l:Int)<4) (
 K (V_ni 15) H) (
 (BD 0 (i64.wrap ((l:Int)-4)) m)/\
 (BD (i64.wrap ((l:Int)-4)) l m)/\
 IA 0 ((l-((i64.wrap ((l:Int)-4)).toNat):Nat):Int) (cq s ((i64.wrap ((l:Int)-4)).toNat) m 1) λc d=>
 rd_y H c (d+0) λe=>
 IA 1 ((l-((i64.wrap ((l:Int)-4)).toNat):Nat):Int) (cq s ((i64.wrap ((l:Int)-4)).toNat) m 1) λf g=>
 rd_y H f (g+1) λi=>
 ((0:Int)<=8)/\
 IA 2 ((l-((i64.wrap ((l:Int)-4)).toNat):Nat):Int) (cq s ((i64.wrap ((l:Int)-4)).toNat) m 1) λj k=>
 rd_y H j (k+2) λn=>
 ((0:Int)<=16)/\
 IA 3 ((l-((i64.wrap ((l:Int)-4)).toNat):Nat):Int) (cq s ((i64.wrap ((l:Int)-4)).toNat) m 1) λo p=>
 rd_y H o (p+3) λq=>
 ((0:Int)<=24)/\
 AL H [(.slice (cq s 0 m 1) ((i64.wrap ((l:Int)-4)).toNat) m)] 43 λr a=>
 ∃b,CQ 165 #[.slice (some ⟨r,0,none⟩) 1 1] a (.int .u32 b)/\
 IN ((aY .or .u32 (aY .or .u32 (aY .or .u32 (u32.wrap e) (u32.wrap ((u32.wrap i)*2^(min (Int.toNat 8) (u32.bits))))) (u32.wrap ((u32.wrap n)*2^(min (Int.toNat 16) (u32.bits))))) (u32.wrap ((u32.wrap q)*2^(min (Int.toNat 24) (u32.bits)))))=b) (
 K (V_ni 14) a) (
 C_l 166 [(.slice (cq s 0 m 1) ((i64.wrap ((l:Int)-4)).toNat) m)] a λt u v w=>
 K (V_li t u v 0) w))):CF 79 ⟨[.slice s l m]⟩ H K:=cE 1905116 [] h
theorem OW(h :
 AL H EY 187 λe t=>
 bC t l (m+15) λx=>
 yY 142 (kA x a) t λy z a0=>
 AL a0 (jO 0 0 0) 149 λf a1=>
 ST a1 f 0 y λr=>
 IF (!z) (
 ST r e 0 EY λu=>
 EZ u e 0 λa2=>
 K (mq (.agg ⟨a2⟩) false) u) (
 bC r l (m+16) λa3=>
 Ga 118 (kA a3 a) r λa4 r4 a5=>
 AL a5 tL 185 λg a6=>
 ST a6 g 0 a4 λc=>
 gz c l (m+18) λa7=>
 LK_p 142 (.map a7) (aB a) c λb=>
 ∃c0 j k,bE c f 0 (jO c0 j k)/\
 ∃n o p q,bE c g 0 (tM n o p q)/\
 NN b (
 aO c (aV b) ((aS b)+2) λs=>
 NN b (
 bC c (aV b) ((aS b)+1) λa8=>
 Q_i 124 [.pointer a8] c λr5=>
 NN b (
 bC c (aV b) ((aS b)+1) λa9=>
 NN b (
 bC c (aV b) (aS b) λv=>
 C_l 122 [.pointer a9] c λb3 b0 b4 d=>
 aL d (aV b) (aS b)=some (.pointer v)/\
 aL d (aV b) ((aS b)+2)=some (aB s)/\
 bE d g 0 (tM n o p q)/\
 bE d f 0 (jO c0 j k)/\
 C_l 120 [.pointer v] d λb5 b1 b6 i=>
 aL i (aV b) ((aS b)+2)=some (aB s)/\
 bE i g 0 (tM n o p q)/\
 bE i f 0 (jO c0 j k)/\
 ST i e 0 (L_i4b3i4 c0 j k n o p q s r5 b0 b1) λw=>
 EZ w e 0 λb2=>
 K (mq (.agg ⟨b2⟩) true) w)))))):CF 75 ⟨(L_ai l m a)⟩ H K:=cE 1167644 [] h
theorem OX(h :
 ST H l (m+9) [aB a] λo=>
 bC o l (m+16) λb3=>
 C_i 158 (kA b3 a) o λd0 c=>
 bC c l (m+17) λp=>
 ∃c0 a0 a1,bE c l (m+12) (jO c0 a0 a1)/\
 bC c l (m+16) λb4=>
 Q_i 52 [.pointer b4] c λr1=>
 C_i 160 (lF (A_i3 c0 a0 a1) r1) c λr2 q=>
 aL q l (m+17)=some (.pointer p)/\
 C_l 159 (kA p r2) q λb5 r d1 b6=>
 ∃(n:nF) (b2:nG),n none 0 0 0 b6/\
 ∀e f g b d,n e f g b d->
 ID (b<r) (
 IA b r b5 λb7 b8=>
 yU d b7 (b8+b.toNat*74) λb9=>
 AL d ET 164 λi c1=>
 ST c1 i 0 b9 λj=>
 Q_i 140 [PA l m] j λr3=>
 ∃a2 a3 a4 a5 a6 a7 a8 a9 b0 b1,bE j i 0 (we a2 a3 a4 a5 a6 a7 a8 a9 b0 b1)/\
 AL j (tN 4 0 0 0 0 r3 0 0 0 0 0 0 0 a2 a3 a4 a5 a6 a7 a8 a9 b0 b1) 305 λc2 c3=>
 AP #[54,54] 54 (fE e f g (some ⟨c2,0,none⟩) 1 1) c3 λs t u k=>
 eA k l (m+19) λv w x=>
 yU k i 0 λc4=>
 AL k c4 164 λc5 y=>
 aL y l (m+19)=some (.slice v w x)/\
 AP #[143,143] 143 (fE v w x (some ⟨c5,0,none⟩) 1 1) y λc6 c7 c8 c9=>
 ST c9 l (m+19) [.slice c6 c7 c8] λz=>
 n s t u (i64.wrap (b+1)) z/\b2 s t u (i64.wrap (b+1)) z<b2 e f g b d) (
 K (.slice e f g) d)):CF 72 ⟨(L_ai l m a)⟩ H K:=cE 0x1111215612399251144c [[(5,sS),(34,sI)]] h
theorem OY(h :
 AL H (yW a b c d e f g i j k a0 s n o) 61 λr z=>
 aO z r 6 λa4=>
 ST z l (m+9) [aB a4] λp=>
 gz p l (m+18) λa5=>
 aO p r 1 λa6=>
 LK_p 142 (.map a5) (aB a6) p λq=>
 aO p r 4 λt=>
 NN q (
 bC p (aV q) ((aS q)+1) λa7=>
 Q_i 124 [.pointer a7] p λu=>
 gd_i ((!decide (t=u))=false) p r 5 λv=>
 (((!decide (t=u))=false)->isA q)/\
 gd_i ((!decide (t=u))=false) p (aV q) ((aS q)+2) λw=>
 ((((!decide (t=u))||(decide (v<w)))=false)->isA q)/\
 ∃a2,((((!decide (t=u))||(decide (v<w)))=false)->aL p (aV q) (aS q)=some (.pointer a2))/\
 ∃a3,((((!decide (t=u))||(decide (v<w)))=false)->CQ 69 #[.pointer a2] p (.bool a3))/\
 IF (((!decide (t=u))||(decide (v<w)))||a3) (
 K (.tuple #[]) p) (
 aO p r 1 λa8=>
 aO p r 5 λa9=>
 yZ 156 [PA l m,aB a8,.pointer q,aB a9] p λb0 b1 b2=>
 AL b2 (fV 0 0) 89 λa1 b3=>
 ST b3 a1 0 b0 λy=>
 IN (b1=0) (
 K (.tuple #[]) y) (
 aO y r 5 λb4=>
 NN q (
 ST y (aV q) ((aS q)+2) [aB b4] λx=>
 bC x l (m+16) λb5=>
 aO x r 1 λb6=>
 aO x a1 0 λb7=>
 C_i 157 (L_pi2 b5 b6 b7) x λb9 b8=>
 K (.tuple #[]) b8))))):CF 71 ⟨(L_av l m (yX a b c d e f g i j k a0 s n o))⟩ H K:=cE 0x1112139912139914 [] h
theorem OZ(h :
 AL H (yW a b c d e f g i j k a0 s n o) 61 λq a4=>
 aO a4 q 6 λc8=>
 ST a4 l (m+9) [aB c8] λr=>
 gz r l (m+18) λc9=>
 aO r q 1 λd0=>
 LK_p 142 (.map c9) (aB d0) r λp=>
 NN p (
 bC r (aV p) ((aS p)+1) λd1=>
 Q_i 124 [.pointer d1] r λd2=>
 NN p (
 bC r (aV p) ((aS p)+1) λa5=>
 aO r q 4 λa6=>
 eA r q 11 λd3 d4 d5=>
 C_l 154 [.slice d3 d4 d5] r λd6 d7 d8 z=>
 aL z q 4=some (aB a6)/\
 aL z (aV p) ((aS p)+1)=some (.pointer a5)/\
 tK 153 (L_pil a5 a6 d6 d7 d8) z λd9 a7 g7 g8 e0=>
 ∃(a3:nF) (c7:nG),a3 none 0 0 0 e0/\
 ∀w x y u t,a3 w x y u t->
 ID (u<a7) (
 IA u a7 d9 λe1 e2=>
 rL t e1 (e2+u.toNat*4) λe3=>
 AL t wh 99 λa8 e4=>
 ST e4 a8 0 e3 λa1=>
 aO a1 q 1 λe5=>
 rL a1 a8 0 λe6=>
 CF 155 ⟨[PA l m,aB e5,.pointer p,.agg ⟨e6⟩]⟩ a1 λe7 e8=>∃b6 b7 b8 b9,e7=(V_v2 (A_i2 b6 b7) (A_i2 b8 b9))/\
 AL e8 (fV 0 0) 87 λa9 e9=>
 AL e9 (fV 0 0) 89 λb0 f0=>
 ST f0 a9 0 (fV b6 b7) λf1=>
 ST f1 b0 0 (fV b8 b9) λa2=>
 aO a2 q 1 λf2=>
 aO a2 q 2 λf3=>
 AL a2 (jO 0 0 0) 85 λb1 f4=>
 ST f4 b1 0 (jO f2 f3 (i64.wrap (d2+u))) λv=>
 ∃c0 c1 c2,bE v b1 0 (jO c0 c1 c2)/\
 ∃c3 c4,bE v a9 0 (fV c3 c4)/\
 ∃c5 c6,bE v b0 0 (fV c5 c6)/\
 AL v (tN 3 0 0 0 0 0 c0 c1 c2 c3 c4 c5 c6 0 (⟨#[]⟩:Fa) 0 0 0 0 0 0 0 Z0) 305 λf5 f6=>
 AP #[54,54] 54 (fE w x y (some ⟨f5,0,none⟩) 1 1) f6 λb2 b3 b4 b5=>
 a3 b2 b3 b4 (i64.wrap (u+1)) b5/\c7 b2 b3 b4 (i64.wrap (u+1)) b5<c7 w x y u t) (
 aO t q 1 λf7=>
 aO t q 2 λf8=>
 NN p (
 bC t (aV p) ((aS p)+1) λf9=>
 Q_i 124 [.pointer f9] t λg0=>
 AL t (tN 2 f7 f8 0 g0 0 0 0 0 0 0 0 0 0 (⟨#[]⟩:Fa) 0 0 0 0 0 0 0 Z0) 305 λg1 g2=>
 AP #[54,54] 54 (fE w x y (some ⟨g1,0,none⟩) 1 1) g2 λg3 g4 g5 g6=>
 K (.slice g3 g4 g5) g6))))):CF 70 ⟨(L_av l m (yX a b c d e f g i j k a0 s n o))⟩ H K:=cE 0x1111112156123992511144c [[(9,sS),(47,sI)]] h
def zi.r7(cb co:Nat)(K:KE)(b:Nat)(H_5:aC):Prop:=
 eA H_5 cb (co+4) λva2 vn2 vc2=>
 cB Tryz.prog (Instr.makeSlice 309 (aB 0) (aB vn2)) H_5 λu1 H_6=>
 ∃sa1 sn1 sc1,u1=(.slice sa1 sn1 sc1)/\
 eA H_6 cb (co+4) λva3 vn3 vc3=>
 ∃(Inv:nF) (mu:nG),Inv sa1 sn1 sc1 0 H_6/\
 ∀gapsa gapsn gapsc t48 H_7,Inv gapsa gapsn gapsc t48 H_7->
 ID (t48<vn3) (
 IA t48 vn3 va3 λb2 o=>
 qp H_7 b2 (o+t48.toNat*4) λl4=>
 AL H_7 ZL_i4 58 λb3 H_8=>
 ST H_8 b3 0 l4 λH_9=>
 ∀Jn1:ER,(∀gb go e_ H_10,(∀Jn2:fM,(∀H_11,(rM H_11 gb go λl=>
 AL H_11 l 89 λb4 H_12=>
 AP #[309,309] 309 (fE gapsa gapsn gapsc (some ⟨b4,0,none⟩) 1 1) H_12 λsa2 sn2 sc2 H_13=>
 Inv sa2 sn2 sc2 (i64.wrap (t48+1)) H_13/\mu sa2 sn2 sc2 (i64.wrap (t48+1)) H_13<mu gapsa gapsn gapsc t48 H_7)->Jn2 H_11)->
 IN (e_=0) (
 ST H_10 gb go (fV 1 0) λH_14=>
 Jn2 H_14) (
 Jn2 H_10))->Jn1 gb go e_ H_10)->
 qp H_9 b3 0 λl3=>
 aO H_9 b 2 λv=>
 aO H_9 cb co λv1=>
 (yZ 148 (L_vi2 (.agg ⟨l3⟩) v v1) H_9 λl1 r2 H_15=>
 AL H_15 (fV 0 0) 89 λb5 H_16=>
 ST H_16 b5 0 l1 λH_17=>
 Jn1 b5 0 r2 H_17)/\
 (AL H_9 (fV 0 0) 89 λb6 H_18=>
 aL H_18 cb co=some (aB v1)/\
 aL H_18 b 2=some (aB v)/\
 bE H_18 b3 0 l3/\
 yZ 148 (L_vi2 (.agg ⟨l3⟩) v v1) H_18 λl2 r3 H_19=>
 ST H_19 b6 0 l2 λH_20=>
 Jn1 b6 0 r3 H_20)) (
 C_b 149 [(.slice gapsa gapsn gapsc)] H_7 λr4 H_21=>
 IF r4 (
 aO H_21 cb (co+1+2) λv2=>
 ∀Jn3:fM,(∀H_22,(aO H_22 cb (co+1+2) λv3=>
 aO H_22 cb (co+1) λv4=>
 ∀Jn4:fM,(∀H_23,(K (aB 0) H_23)->Jn4 H_23)->
 ID (v4<=v3) (
 ST H_22 cb (co+1+1) [(.bool false)] λH_24=>
 Jn4 H_24) (
 Jn4 H_22))->Jn3 H_22)->
 ID (v2<9223372036854775807) (
 aO H_21 cb (co+1+2) λv5=>
 ST H_21 cb (co+1+2) [(aB (i64.wrap (v5+1)))] λH_25=>
 Jn3 H_25) (
 Jn3 H_21)) (
 ST H_21 cb (co+1+1) [(.bool true)] λH_26=>
 ST H_26 cb (co+1+2) [(aB 0)] λH_27=>
 ST H_27 cb (co+4) [(.slice none 0 0)] λH_28=>
 IA (i64.wrap ((gapsn:Int)-1)) gapsn gapsa λb7 o1=>
 rM H_28 b7 (o1+(i64.wrap ((gapsn:Int)-1)).toNat*2) λl6=>
 C_b 150 [(.agg ⟨l6⟩)] H_28 λr5 H_29=>
 ∀Jn5:fM,(∀H_30,(K (aB 21) H_30)->Jn5 H_30)->
 IF r5 (
 qp H_29 b 0 λl5=>
 AL H_29 l5 58 λb8 H_31=>
 ST H_31 cb (co+4) [(.slice (some ⟨b8,0,none⟩) 1 1)] λH_32=>
 Jn5 H_32) (
 Jn5 H_29)))
theorem Pa(h :
 AL H (L_i4 a b c d) 58 λg j=>
 qp j g 0 λr=>
 C_b 139 [.agg ⟨r⟩] j λs e=>
 IF (!s) (
 K (aB 10) e) (
 eA e l (m+4) λk n o=>
 qp e g 0 λt=>
 AL e t 58 λu p=>
 aL p l (m+4)=some (.slice k n o)/\
 AP #[267,267] 267 (fE k n o (some ⟨u,0,none⟩) 1 1) p λv w x y=>
 ST y l (m+4) [.slice v w x] λf=>
 eA f l (m+4) λa8 z a9=>
 ∀i:fM,(∀q,zi.r7 l m K g q->i q)->
 ID (8<(z:Int)) (
 eA f l (m+4) λa0 a1 a2=>
 C_l 147 [.slice a0 a1 a2,aB 0,aB 1] f λa3 a4 a5 a6=>
 ST a6 l (m+4) [.slice a3 a4 a5] λa7=>
 i a7) (
 i f))):CF 67 ⟨(L_av l m (A_i4 a b c d))⟩ H K:=cE 0x1d12174912156123992512821749442132174921749c9121749c [[],[],[],[],[(8,sA),(9,sI)],[(5,sS),(48,sI)],[]] h
def zj.r2(sb so b:Nat)(Jn2:(KQ)->Nat->Nat->aC->Prop)(lista1:KQ)(listn1 listc1:Nat)(H_7:aC):Prop:=
 gz H_7 sb (so+18) λv6=>
 aO H_7 b 1 λv7=>
 C_p 145 [(PA sb so)] H_7 λr H_8=>
 aL H_8 b 1=some (aB v7)/\
 aL H_8 sb (so+18)=some (.map v6)/\
 MU 142 (.map v6) (aB v7) (.pointer r) H_8 λH_9=>
 bC H_9 sb (so+16) λv8=>
 aO H_9 b 1 λv9=>
 aO H_9 b 6 λv10=>
 C_i 146 (L_pi2 v8 v9 v10) H_9 λr11 H_10=>
 Jn2 lista1 listn1 listc1 H_10
theorem Pd(h :
 AL H (yW a b c d e f g i j k a0 s n o) 61 λp x=>
 ∀b4:J_n2HP,(∀c8 c9 t,(∀b5:J_n2biHP,(∀b1 b2 d0 b3 z,(IN (b3=0) (
 K (V_ni b3) z) (
 aO z p 6 λd9=>
 ST z l (m+9) [aB d9] λr=>
 ∀b6:zc,(∀d1 d2 d3 w,(aO w p 1 λe0=>
 aO w b1 (b2+1) λe1=>
 aO w b1 b2 λe2=>
 AL w (tN 1 e0 e2 e1 0 0 0 0 0 0 0 0 0 0 (⟨#[]⟩:Fa) 0 0 0 0 0 0 0 Z0) 305 λe3 e4=>
 AP #[54,54] 54 (fE d1 d2 d3 (some ⟨e3,0,none⟩) 1 1) e4 λe5 e6 e7 e8=>
 K (V_li e5 e6 e7 0) e8)->b6 d1 d2 d3 w)->
 IF d0 (
 gz r l (m+18) λe9=>
 aO r p 1 λf0=>
 LK_p 142 (.map e9) (aB f0) r λy=>
 ∀b7:zc,(∀d4 d5 d6 d7,zj.r2 l m p b6 d4 d5 d6 d7->b7 d4 d5 d6 d7)->
 IF (!y.isNone) (
 NN y (
 bC r (aV y) ((aS y)+1) λf1=>
 C_l 122 [.pointer f1] r λf2 b9 k3 f3=>
 ∃(b8:nF) (d8:nG),b8 none 0 0 0 f3/\
 ∀a1 a2 a3 u q,b8 a1 a2 a3 u q->
 ID (u<b9) (
 IA u b9 f2 λf4 f5=>
 aO q f4 (f5+u.toNat) λf6=>
 aO q p 1 λf7=>
 aO q c8 c9 λf8=>
 AL q (tN 3 0 0 0 0 0 f7 f8 f6 5 0 0 0 0 (⟨#[]⟩:Fa) 0 0 0 0 0 0 0 Z0) 305 λf9 g0=>
 AP #[54,54] 54 (fE a1 a2 a3 (some ⟨f9,0,none⟩) 1 1) g0 λc0 c1 c2 c3=>
 b8 c0 c1 c2 (i64.wrap (u+1)) c3/\d8 c0 c1 c2 (i64.wrap (u+1)) c3<d8 a1 a2 a3 u q) (
 bC q l (m+16) λg1=>
 aO q p 1 λg2=>
 C_i 144 (kA g1 g2) q λk4 g3=>
 b7 a1 a2 a3 g3))) (
 b7 none 0 0 r)) (
 b6 none 0 0 r)))->b5 b1 b2 d0 b3 z)->
 bC t l (m+15) λa4=>
 aO t p 1 λa5=>
 aO t p 3 λa6=>
 aO t p 6 λa7=>
 (Gb 143 (L_pi3 a4 a5 a6 a7) t λg4 g5 g6 g7=>
 AL g7 (jO 0 0 0) 149 λc4 g8=>
 ST g8 c4 0 g4 λg9=>
 b5 c4 0 g5 g6 g9)/\
 (AL t (jO 0 0 0) 149 λc5 v=>
 aL v p 6=some (aB a7)/\
 aL v p 3=some (aB a6)/\
 aL v p 1=some (aB a5)/\
 aL v l (m+15)=some (.pointer a4)/\
 Gb 143 (L_pi3 a4 a5 a6 a7) v λi0 i1 i2 i3=>
 ST i3 c5 0 i0 λi4=>
 b5 c5 0 i1 i2 i4))->b4 c8 c9 t)->
 bC x l (m+15) λa8=>
 aO x p 1 λa9=>
 (yY 142 (kA a8 a9) x λi5 k5 i6=>
 AL i6 (jO 0 0 0) 149 λc6 i7=>
 ST i7 c6 0 i5 λi9=>
 b4 c6 0 i9)/\
 (AL x (jO 0 0 0) 149 λc7 b0=>
 aL b0 p 1=some (aB a9)/\
 aL b0 l (m+15)=some (.pointer a8)/\
 yY 142 (kA a8 a9) b0 λk0 k6 k1=>
 ST k1 c7 0 k0 λk2=>
 b4 c7 0 k2)):CF 66 ⟨(L_av l m (yX a b c d e f g i j k a0 s n o))⟩ H K:=cE 0x12828d1121721172156123992514449149c [[(11,sS),(64,sI)],[(11,sS)],[(11,sS)],[(8,sA),(9,sB),(10,sI)],[(6,sA)]] h
theorem Pe(h :
 AL H (jO b c d) 149 λk s=>
 gz s l (m+18) λc6=>
 LK_p 142 (.map c6) (aB a) s λe=>
 bC s l (m+16) λc7=>
 Ga 118 (kA c7 a) s λc8 o6 c9=>
 AL c9 tL 185 λn d0=>
 ST d0 n 0 c8 λg=>
 aO g k 0 λa6=>
 aO g k 1 λa7=>
 aO g k 2 λa8=>
 aO g n 0 λa9=>
 rd_b g n 1 λd1=>
 rd_b g n 2 λd2=>
 rd_b g n 3 λd3=>
 AL g [.bool d1,.bool d2,.bool d3] 4 λd4 o=>
 aL o n 0=some (aB a9)/\
 aL o k 2=some (aB a8)/\
 aL o k 1=some (aB a7)/\
 aL o k 0=some (aB a6)/\
 Q_i 119 [.slice (some ⟨d4,0,none⟩) 3 3] o λr4=>
 AL o [aB a,aB a6,aB a7,aB a8,aB a9,aB r4] 2 λd5 d6=>
 C_l 49 [.slice (some ⟨d5,0,none⟩) 6 6] d6 λd7 d8 d9 b0=>
 NN e (
 aO b0 (aV e) ((aS e)+2) λe0=>
 AL b0 [aB e0] 2 λe1 e2=>
 C_l 51 [.slice (some ⟨e1,0,none⟩) 1 1] e2 λe3 e4 e5 e6=>
 AP #[43,43] 43 (fE d7 d8 d9 e3 e4 e5) e6 λe7 e8 e9 b1=>
 NN e (
 bC b1 (aV e) (aS e) λf0=>
 C_l 120 [.pointer f0] b1 λf1 a1 o7 t=>
 NN e (
 bC t (aV e) (aS e) λf2=>
 Q_b 69 [.pointer f2] t λr5=>
 NN e (
 bC t (aV e) (aS e) λb2=>
 AL t [.bool r5] 4 λf3 u=>
 aL u (aV e) (aS e)=some (.pointer b2)/\
 Q_i 119 [.slice (some ⟨f3,0,none⟩) 1 1] u λr6=>
 Q_i 121 [.pointer b2] u λr7=>
 AL u (jO r6 r7 a1) 2 λf4 f5=>
 C_l 49 [.slice (some ⟨f4,0,none⟩) 3 3] f5 λf6 f7 f8 f9=>
 AP #[43,43] 43 (fE e7 e8 e9 f6 f7 f8) f9 λg0 g1 g2 g3=>
 ∃(a4:nF) (c4:nG),a4 g0 g1 g2 0 g3/\
 ∀v w x i j,a4 v w x i j->
 ID (i<a1) (
 IA i a1 f1 λg4 g5=>
 qp j g4 (g5+i.toNat*4) λg6=>
 AL j ZL_i4 58 λp g7=>
 ST g7 p 0 g6 λq=>
 aO q p 0 λg8=>
 aO q p 1 λg9=>
 aO q p 2 λi0=>
 aO q p 3 λi1=>
 AL q (L_i4 g8 g9 i0 i1) 2 λi2 i3=>
 C_l 49 [.slice (some ⟨i2,0,none⟩) 4 4] i3 λi4 i5 i6 i7=>
 AP #[43,43] 43 (fE v w x i4 i5 i6) i7 λb3 b4 b5 b6=>
 a4 b3 b4 b5 (i64.wrap (i+1)) b6/\c4 b3 b4 b5 (i64.wrap (i+1)) b6<c4 v w x i j) (
 NN e (
 bC j (aV e) ((aS e)+1) λi9=>
 NN e (
 bC j (aV e) ((aS e)+1) λb7=>
 C_l 122 [.pointer i9] j λk0 a2 o8 b8=>
 aL b8 (aV e) ((aS e)+1)=some (.pointer b7)/\
 C_p 63 [.pointer b7] b8 λk1 k2=>
 C_l 123 [.pointer k1] k2 λk3 k4 o9 a3=>
 NN e (
 bC a3 (aV e) ((aS e)+1) λk5=>
 Q_i 124 [.pointer k5] a3 λk6=>
 AL a3 (fV k6 a2) 2 λk7 k8=>
 C_l 49 [.slice (some ⟨k7,0,none⟩) 2 2] k8 λk9 m0 m1 m2=>
 AP #[43,43] 43 (fE v w x k9 m0 m1) m2 λm3 m4 m5 m6=>
 ∃(a5:nF) (c5:nG),a5 m3 m4 m5 0 m6/\
 ∀y z a0 f r,a5 y z a0 f r->
 ID (f<a2) (
 IA f a2 k0 λm7 m8=>
 aO r m7 (m8+f.toNat) λm9=>
 AL r [aB m9] 2 λn0 n1=>
 C_l 49 [.slice (some ⟨n0,0,none⟩) 1 1] n1 λn2 n3 n4 n5=>
 AP #[43,43] 43 (fE y z a0 n2 n3 n4) n5 λn6 n7 n8 b9=>
 IA f k4 k3 λn9 o0=>
 rL b9 n9 (o0+f.toNat*4) λo1=>
 C_l 125 [.agg ⟨o1⟩] b9 λo2 o3 o4 o5=>
 AP #[43,43] 43 (fE n6 n7 n8 o2 o3 o4) o5 λc0 c1 c2 c3=>
 a5 c0 c1 c2 (i64.wrap (f+1)) c3/\c5 c0 c1 c2 (i64.wrap (f+1)) c3<c5 y z a0 f r) (
 K (.slice y z a0) r)))))))))):CF 54 ⟨[PA l m,aB a,(A_i3 b c d)]⟩ H K:=cE 0x11111112156123992514411215612399251144c [[(10,sS),(126,sI)],[(10,sS),(85,sI)]] h
def zk.y1(b1 b2 b3:Nat)(H_8:aC)(R:Loop)(vs:Os)(H_9:aC)(K_:KE):Prop:=
 ∃y y0 y1a y1n y1c,vs=(L_iv y (A_il y0 y1a y1n y1c))/\
 H_9[H_8.size+1]?=some (.loop R)/\
 AL H_9 (L_in 0) 234 λb4 H_10=>
 ST H_10 b4 0 (L_il y0 y1a y1n y1c) λH_11=>
 H_11[H_8.size+1]?=some (.loop R)/\
 ∀H_12:aC,H_12=gI H_11 (H_8.size+1) { R with state:=.busy }->
 aO H_12 b4 0 λv=>
 ID (v=0) (
 eA H_12 b4 1 λva2 vn2 vc2=>
 ST H_12 b2 0 [(.slice va2 vn2 vc2)] λH_13=>
 ST H_13 b2 1 [(.bool true)] λH_14=>
 eA H_14 b1 0 λva3 vn3 vc3=>
 (BD (i64.wrap (y+1)) vn3 vc3)/\
 ST H_14 b3 0 [(.slice (cq va3 ((i64.wrap (y+1)).toNat) vc3 2) (vn3-((i64.wrap (y+1)).toNat)) (vc3-((i64.wrap (y+1)).toNat)))] λH_15=>
 H_15[H_8.size+1]?=some (.loop { R with state:=.busy })/\K_ (.bool false) (gI H_15 (H_8.size+1) { R with state:=.done,pending:=some (.exit 0) })) (
 H_12[H_8.size+1]?=some (.loop { R with state:=.busy })/\K_ (.bool true) (gI H_12 (H_8.size+1) R))
theorem Pf(h :
 AL H (L_nbn false) 129 λd a5=>
 Gc 99 (L_ai l m a) a5 λo a6 a7 a8 r1 a9=>
 AL a9 [.slice none 0 0] 127 λg b0=>
 ST b0 g 0 [.slice a6 a7 a8] λp=>
 IN (r1=0) (
 ST p d 0 (L_nbn false) λq=>
 tO q d 0 λb1=>
 K (.tuple #[.pointer none,.agg ⟨b1⟩,aB r1]) q) (
 AL p (L_nbn false) 129 λc r=>
 eA r g 0 λb2 b3 b4=>
 AL r [.slice none 0 0] 127 λi b5=>
 ST b5 i 0 [.slice b2 b3 b4] λs=>
 eA s g 0 λb6 b7 b8=>
 C_f 100 [.slice b6 b7 b8] s λt b9 b=>
 bI t X.calls=true/\
 ∀e:Loop,e.state=.ready->e.pending=none->
 (∀(a1:Os) (a2:aC) (a3:KE),zk.y1 g c i b e a1 a2 a3->fI Tryz.prog (b.size+1) a1 a2 a3)->
 CF t ⟨(.func (.yield (b.size+1)) #[] #[])::b9⟩ ((b.push (.deferred (some []))).push (.loop e)) λd8 u=>∃(a4:LoopState) (j:Option Code),a4≠.busy/\u[b.size+1]?=some (.loop { e with state:=a4,pending:=j })/\
 ∀f:aC,f=gI u (b.size+1) { e with state:=.exhausted,pending:=j }->
 ((j=none/\
 eA f i 0 λc0 c1 c2=>
 C_l 101 [.slice c0 c1 c2] f λc3 c4 c5 c6=>
 ST c6 c 2 [.slice c3 c4 c5] λv=>
 tO v c 0 λw=>
 AL v (L_pbi2 o false 0 0) 113 λc7 x=>
 bE x c 0 w/\
 ST x d 0 w λk=>
 k[b.size]?=some (.deferred (some []))/\
 tO (k.setIfInBounds b.size (.deferred none)) d 0 λc8=>
 K (V_avi c7 0 (.agg ⟨c8⟩) 0) (k.setIfInBounds b.size (.deferred none)))\/
 j=(some (.exit 0))/\
 eA f i 0 λc9 d0 d1=>
 C_l 101 [.slice c9 d0 d1] f λd2 d3 d4 d5=>
 ST d5 c 2 [.slice d2 d3 d4] λy=>
 tO y c 0 λz=>
 AL y (L_pbi2 o false 0 0) 113 λd6 a0=>
 bE a0 c 0 z/\
 ST a0 d 0 z λn=>
 n[b.size]?=some (.deferred (some []))/\
 tO (n.setIfInBounds b.size (.deferred none)) d 0 λd7=>
 K (V_avi d6 0 (.agg ⟨d7⟩) 0) (n.setIfInBounds b.size (.deferred none))))):CF 45 ⟨(L_ai l m a)⟩ H K:=cFE (.r (.r (.seq (.r (.cond (.r .no) .no)) (.r (.r (.seq (.r (.blk (.rng [sI,.agg [.int .i64, .slice]] [none,(some (.exit 0))] (.r .reg) (.blk (.r (.cond (.r (.r .no)) .no)))))) (.r (.r .no)))))))) h
theorem Pg(h :
 gz H l m λf=>
 ∃e c d,dm Tryz.prog (Instr.lookup 123 (.map f) (aB a) false) H (.slice e c d)/\
 ID (b=c) (
 gz H l m λg=>
 cB Tryz.prog (Builtin.delete_ #[123,3] 0 #[.map g,aB a]) H λn i=>
 K (.tuple #[]) i) (
 gz H l m λj=>
 (BD 0 (i64.wrap ((c:Int)-b)) d)/\
 MU 123 (.map j) (aB a) (.slice (cq e 0 d 1) ((i64.wrap ((c:Int)-b)).toNat) d) H λk=>
 K (.tuple #[]) k)):CF 44 ⟨(L_ai2 l m a b)⟩ H K:=cE 468 [] h
theorem Ph(h :
 Oc H l m λc0 a9 b0 b1 b2 b3 b4 b5 b6 b7 b8 b9 c1 c2 c3 c4 c5 c6 c7 c8 c9 d0=>
 AL H [aB 0,aB 0,aB 0,aB 0,aB 0,aB 0,aB 0,aB 0,aB 0,aB 0,aB 0,aB 0,aB 0,aB 0,aB 0,.pointer none,.pointer none,.pointer none,.map none,.slice none 0 0] 145 λa d1=>
 ST d1 a 0 [aB c0,aB a9,aB b0,aB b1,aB b2,aB b3,aB b4,aB b5,aB b6,aB b7,aB b8,aB b9,aB c1,aB c2,aB c3,.pointer c4,.pointer c5,.pointer c6,.map c7,.slice c8 c9 d0] λe=>
 bC e l (m+15) λd2=>
 bC e l (m+16) λw=>
 bC e l (m+17) λq=>
 C_p 58 [.pointer d2] e λd3 r=>
 aL r l (m+17)=some (.pointer q)/\
 aL r l (m+16)=some (.pointer w)/\
 C_p 59 [.pointer w] r λr1 x=>
 aL x l (m+17)=some (.pointer q)/\
 C_p 60 [.pointer q] x λr2 d4=>
 ST d4 a 15 [.pointer d3] λd5=>
 ST d5 a 16 [.pointer r1] λd6=>
 ST d6 a 17 [.pointer r2] λy=>
 eA y l (m+19) λd7 d8 d9=>
 C_l 61 [.slice d7 d8 d9] y λe0 e1 e2 e3=>
 ST e3 a 19 [.slice e0 e1 e2] λe4=>
 NM e4 λe5 e6=>
 ST e6 a 18 [.map (some e5)] λz=>
 gz z l (m+18) λe7=>
 cB Tryz.prog (Instr.range 142 (.map e7)) z λe8 e9=>
 ∃n:Nat,e8=.pointer (some ⟨n,0,none⟩)/\
 ∃(o:fM) (p:J_Hn),o e9/\
 ∀k,o k->
 cB Tryz.prog (Instr.next (PA n 0) false 0) k λa0 d=>
 (a0=(.tuple #[.bool false])/\
 IF false (
 ∃a7,∃b,dm Tryz.prog (Instr.entry (PA n 0)) d (V_ip a7 b)/\
 gz d a 18 λf=>
 NN b (
 bC d (aV b) (aS b) λf0=>
 NN b (
 bC d (aV b) ((aS b)+1) λa1=>
 NN b (
 aO d (aV b) ((aS b)+2) λs=>
 C_p 62 [.pointer f0] d λr3 g=>
 aL g (aV b) ((aS b)+2)=some (aB s)/\
 aL g (aV b) ((aS b)+1)=some (.pointer a1)/\
 aL g a 18=some (.map f)/\
 C_p 63 [.pointer a1] g λr4 t=>
 aL t (aV b) ((aS b)+2)=some (aB s)/\
 aL t a 18=some (.map f)/\
 AL t (L_p2i r3 r4 s) 173 λf1 a2=>
 aL a2 a 18=some (.map f)/\
 MU 142 (.map f) (aB a7) (PA f1 0) a2 λa3=>
 o a3/\p a3<p k)))) (
 K (PA a 0) d))\/
 (∃f4 f5:Value,a0=(.tuple #[.bool true,f4,f5])/\
 IF true (
 ∃a8,∃c,dm Tryz.prog (Instr.entry (PA n 0)) d (V_ip a8 c)/\
 gz d a 18 λi=>
 NN c (
 bC d (aV c) (aS c) λf2=>
 NN c (
 bC d (aV c) ((aS c)+1) λa4=>
 NN c (
 aO d (aV c) ((aS c)+2) λu=>
 C_p 62 [.pointer f2] d λr5 j=>
 aL j (aV c) ((aS c)+2)=some (aB u)/\
 aL j (aV c) ((aS c)+1)=some (.pointer a4)/\
 aL j a 18=some (.map i)/\
 C_p 63 [.pointer a4] j λr6 v=>
 aL v (aV c) ((aS c)+2)=some (aB u)/\
 aL v a 18=some (.map i)/\
 AL v (L_p2i r5 r6 u) 173 λf3 a5=>
 aL a5 a 18=some (.map i)/\
 MU 142 (.map i) (aB a8) (PA f3 0) a5 λa6=>
 o a6/\p a6<p k)))) (
 K (PA a 0) d))):CF 18 ⟨[PA l m]⟩ H K:=cE 0x11111215612399514c [[]] h
def zl.y1(b b1:Nat)(H_4:aC)(R:Loop)(vs:Os)(H_5:aC)(K_:KE):Prop:=
 ∃y y0 y1,vs=(L_iv y (A_i2 y0 y1))/\
 H_5[H_4.size+1]?=some (.loop R)/\
 AL H_5 (fV 0 0) 122 λb2 H_6=>
 ST H_6 b2 0 (fV y0 y1) λH_7=>
 H_7[H_4.size+1]?=some (.loop R)/\
 ∀H_8:aC,H_8=gI H_7 (H_4.size+1) { R with state:=.busy }->
 aO H_8 b1 0 λv2=>
 ID (v2<=0) (
 H_8[H_4.size+1]?=some (.loop { R with state:=.busy })/\K_ (.bool false) (gI H_8 (H_4.size+1) { R with state:=.done,pending:=some (.exit 0) })) (
 bC H_8 b 0 λv3=>
 aO H_8 b2 0 λv4=>
 aO H_8 b2 1 λv5=>
 aO H_8 b1 0 λv6=>
 C_T_ 44 (L_pi2 v3 v4 (if v6<v5 then v6 else v5)) H_8 λH_9=>
 aO H_9 b1 0 λv7=>
 aO H_9 b2 1 λv8=>
 ST H_9 b1 0 [(aB (i64.wrap (v7-v8)))] λH_10=>
 H_10[H_4.size+1]?=some (.loop { R with state:=.busy })/\K_ (.bool true) (gI H_10 (H_4.size+1) R))
theorem Pj(h :
 AL H [PA l m] 30 λd n=>
 bC n d 0 λx=>
 C_i 27 [.pointer x] n λy z=>
 AL z [aB 0] 3 λo a0=>
 ST a0 o 0 [aB (i64.wrap (y-(if 0>a then 0 else a)))] λg=>
 bC g d 0 λi=>
 NN i (
 eA g (aV i) ((aS i)+1) λa1 a2 a3=>
 C_f 43 [.slice a1 a2 a3] g λp a4 b=>
 bI p X.calls=true/\
 ∀c:Loop,c.state=.ready->c.pending=none->
 (∀(t:Os) (u:aC) (v:KE),zl.y1 d o b c t u v->fI Tryz.prog (b.size+1) t u v)->
 CF p ⟨(.func (.yield (b.size+1)) #[] #[])::a4⟩ ((b.push (.deferred (some []))).push (.loop c)) λa5 q=>∃(w:LoopState) (f:Option Code),w≠.busy/\q[b.size+1]?=some (.loop { c with state:=w,pending:=f })/\
 ∀e:aC,e=gI q (b.size+1) { c with state:=.exhausted,pending:=f }->
 ((f=none/\
 bC e d 0 λj=>
 NN j (
 ST e (aV j) ((aS j)+1) [.slice none 0 0] λr=>
 r[b.size]?=some (.deferred (some []))/\
 K (.tuple #[]) (r.setIfInBounds b.size (.deferred none))))\/
 f=(some (.exit 0))/\
 bC e d 0 λk=>
 NN k (
 ST e (aV k) ((aS k)+1) [.slice none 0 0] λs=>
 s[b.size]?=some (.deferred (some []))/\
 K (.tuple #[]) (s.setIfInBounds b.size (.deferred none)))))):CF 15 ⟨(L_ai l m a)⟩ H K:=cFE (.r (.r (.seq (.r (.blk (.rng [sI,.agg [.int .i64, .int .i64]] [none,(some (.exit 0))] .reg (.blk (.seq (.r (.cond .no .no)) (.r .reg)))))) .reg))) h
end
end Go.Proofs.YtaaieblnikcndaaGreatDoor
