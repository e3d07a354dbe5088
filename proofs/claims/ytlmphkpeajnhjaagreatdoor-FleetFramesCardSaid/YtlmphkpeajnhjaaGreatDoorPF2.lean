/-
  Lemmas for FleetFrames: part 2 of what it rests on. Conditions: none.
-/
import Derived.Test.YtlmphkpeajnhjaaGreatDoorPF1
set_option linter.unusedVariables false
set_option linter.unusedSimpArgs false
set_option maxRecDepth 100000
set_option maxHeartbeats 16000000
open Go.IntKind (i64 u64 i8 u8 i32 u32 i16 u16)
namespace Go.Proofs.YtlmphkpeajnhjaaGreatDoor
open Go
variable {H:aC}{K:KE}{P:Program}{n m:Nat}{a:Int}{t:TypeId}{s:KQ}{f:FuncId}{w:Fb}{A:Value -> aC -> Prop}{B:Xa}{C:Array Field}{D:Bool}
theorem IS{ys:Xa}(h:pq P t B ys=some D)(w:World):(Op.equalIn 10000 t (.agg ⟨B⟩) (.agg ⟨ys⟩)).run P w=.ok D w:=by grind [pq,Program.fieldsOf,run_equalIn_struct,A6]
theorem Qw{em:Bool}{v:Value}(h:jQ (P.underlying t) v=true)(w:World):(Instr.checkKey em (n+1) t v).run P w=.ok () w:=by cases hu:P.underlying t with
  | none=>grind [jQ]
  | some d=>rw[hu]at h;cases d <;> cases v <;> simp[jQ]at h <;> simp[Instr.checkKey,run_underlying hu]
def aft(P:Program)(xs:Xa):List Field->Bool
 | []=>true
 | f::r=>(match aT xs f.offset with|some v=>jQ (P.underlying f.type) v|none=>false)&&aft P xs r
theorem Qx{em:Bool}{n:Nat}(c:P.underlying t=some (.struct C))(h:aft P B C.toList=true)(w:World) : (Instr.checkKey em (n+1+1) t (.agg ⟨B⟩)).run P w=.ok () w:=by
 rw[Instr.checkKey];simp only[Sem.run_bind,run_underlying c,Result.andThen_ok];rw[<-Array.forIn_toList];generalize C.toList=l at h;induction l with
  | nil=>simp
  | cons f r b=>
  simp only[aft,s_]at h;have b:=b h.2;have a:=h.1;split at a;.rename_i v d;have e:=uM (w:=w) a d;have i:=Qw (em:=em) (n:=n) a w;simp_all
  cases a
theorem A8{κ:Type}[DecidableEq κ]{P:Program}{k:TypeId}{V:κ->Value}(b:∀x y w,(Op.equal k (V x) (V y)).run P w=.ok (decide (x=y)) w)(x:κ)(w:World):∀(es:List MapEntry) (a:List κ) (i:Nat),es.map (·.key)=a.map V->
  (x∉a->(Instr.findAsking k (V x) es i).run P w=.ok none w)/\∀j en,a[j]?=some x->(∀l,l<j->a[l]?≠some x)->es[j]?=some en->(Instr.findAsking k (V x) es i).run P w=.ok (some (i+j,en.val)) w
 | [],[],i,_=>⟨λ_=>by simp[Instr.findAsking],λj e h=>by simp at h⟩
 | [],_::_,i,h=>by simp at h
 | _::_,[],i,h=>by simp at h
 | e0::es,y::a,i,h=>by
  simp only[Hw,List.cons.injEq]at h;let⟨n,f⟩:=A8 b x w es a (i+1) h.2;have c:=b x y w;rw[<-h.1]at c
  by_cases e:x=y
  .subst e;refine⟨λd=>cS eh d,λj e1 u s m=>?_⟩
   have:j=0:=by
    cases j with
    | zero=>rfl
    | succ j=>exact cS rfl (s 0 ez)
   subst this;simp at m;subst m;simp[Instr.findAsking,Sem.run_bind,c]
  .refine⟨λd=>?_,λj e1 u s m=>?_⟩
   .simp only[DK,not_or]at d;simp[Instr.findAsking,Sem.run_bind,c,e,n d.2]
   .cases j with
    | zero=>grind
    | succ j=>
     have:=f j e1 (by grind) (λl t=>by grind) (by grind)
     simp only[Instr.findAsking,Sem.run_bind,c,e,decide_false,Result.andThen_ok,q2y,if_false,this]
     grind
theorem IT{d:TypeDesc}(x:Value)(b:∃a,x=.agg a):∀(es:List MapEntry) (i:Nat),es≠[]->Instr.findNow d x es i=none
 | [],_,h=>cS rfl h
 | e0::es,i,_=>by obtain⟨a,rfl⟩:=b;grind [Instr.sameNow,Instr.findNow]
theorem A9{κ:Type}[DecidableEq κ]{enc:κ->Xa}(a:P.underlying t=some (.struct C))(hi:∀x y,enc x=enc y->x=y)
  (b:∀x y,pq P t (enc x) (enc y)=some (decide (x=y))) (c:∀x,aft P (enc x) C.toList=true) (hb:∀x n,Instr.sameBits (n+1+1) (.agg ⟨enc x⟩) (.agg ⟨enc x⟩)=true):lH P t (λx=>.agg ⟨enc x⟩) where
 inj x y h:=hi x y (by grind)
 X7 em x w:=Qx (n:=9998) a (c x) w
 non x ks es w hk2 hx:=by
  simp only[Instr.findKey,Sem.run_bind,run_underlying a,Result.andThen_ok]
  cases es with
  | nil=>simp[Instr.findNow]
  | cons e0 r=>
   rw[IT (.agg ⟨enc x⟩) ⟨_,rfl⟩ (e0::r) 0 eh];exact (A8 (V:=λx=>.agg ⟨enc x⟩) (λx y w=>IS (b x y) w) x w _ ks 0 hk2).1 hx
 fnd x ks es w i en hk2 h1 h2 h3:=by
  simp only[Instr.findKey,Sem.run_bind,run_underlying a,Result.andThen_ok]
  cases es with
  | nil=>simp at h3
  | cons e0 r=>
   rw[IT (.agg ⟨enc x⟩) ⟨_,rfl⟩ (e0::r) 0 eh];have:=(A8 (V:=λx=>.agg ⟨enc x⟩) (λx y w=>IS (b x y) w) x w _ ks 0 hk2).2 i en h1 h2 h3
   grind
 stay x w:=by simp[Instr.keyThatStays,hb x 9998]
def fj(s:Fb):List Int:=s.data.toList.map λb=>(b.toNat:Int)
theorem uP(s:Fb):(fj s).length=s.size:=by rw[fj,FX,q30];rfl
theorem Qy(s:Fb):∀x∈fj s,0<=x/\x<256:=by intro x a;simp only[fj,zb]at a;obtain⟨b,_,rfl⟩:=a;have:=b.toNat_lt;omega
theorem IU(s:Fb)(size:Nat)(w:World):(Builtin.firstCells size s.size (.string s)).run P w=.ok (((fj s).map U8).toArray) w:=by
 have a:s.extract 0 s.size=s:=eh;have c:s.data.map (λb=>Value.int .u8 b.toNat)=((fj s).map U8).toArray:=by apply Array.ext';rw[Array.toList_map,List.toList_toArray,fj,XL];rfl
 simp only[Builtin.firstCells,a,c];rfl
theorem Qz{F:aF}{e:Nat}{c:Nat}{P:Program}{t ts bytes ty:Nat}(T:Fk P t e 1 bytes)(v:P.underlying ts=some .string){a:Fb}(h:aR H (ay e 1 s n c B*F)) (hb:(n+a.size)*bytes<=140737488355328) (hn:n+a.size<=140737488355328) (k:∀Y S Z,aR Z (ay e 1 Y (n+a.size) S (B++(fj a).map U8)*F)->K (.slice Y (n+a.size) S) Z) : cv P (Builtin.append_ #[t,ts] ty #[.slice s n c,.string a]) H K:=by
 obtain⟨J,h1,i,z,hi,hz,A,rfl,y⟩:=T;refine .mk λw L=>?_;subst L;let⟨d,cs⟩:=kw h;have hl:((fj a).map U8).length=a.size:=by grind [uP]
 have G:cU ((fj a).map U8)=true:=oK (λ_=>rfl) _;have M:¬(9223372036854775807<(n:Int)+(a.size:Int)):=ez;have x:=IU (P:=P) a i.size w;have O:=IU (P:=P) a i.size w.drew;have E:=uH (P:=P) (w:=w.drew) (a2:=s) (m:=n) (c2:=c) (Ap h) d;generalize hws:(fj a).map U8=ws at *;rw[<-A]at d cs y E;by_cases Ho:n+a.size<=c
 .rcases cs with ⟨cs,V,N,C⟩|⟨b,pre,post,e',fr,cs,V,N,hf,C⟩
  .subst cs;subst V;subst N;have h0:a.size=0:=ez;obtain rfl:ws=[]:=q20 ez;obtain rfl:B=[]:=q20 (by grind);refine⟨.slice none (0+a.size) 0,w,?_,bZ.refl w,k _ _ _ ?_⟩;.rw [h0]at x;simp[Builtin.append_,run_underlying J,run_underlying v,sizeOf,typeInfo,hi,Builtin.lenOf,h0,x]
   rw [h0];exact ry C
  subst cs;have f:i.size=1:=A.symm▸rfl;have D:ws.length<=post.length:=by grind
  have u:eA w.heap b (pre.length+n*i.size) ws:=C.aas ws _ (by grind) λj I U=>hf j ez (by grind);let⟨w',I,U,h8⟩:=sH (P:=P) (b:=b) ws (pre.length+n*i.size) 0 w (eu u) (eu (sJ _ _ u)) G;refine⟨.slice (some ⟨b,pre.length,none⟩) (n+a.size) c,w',?_,U,k _ _ _ ?_⟩;.simp [Builtin.append_,run_underlying J,run_underlying v,sizeOf,typeInfo,hi,Builtin.lenOf,Ho,x,iF,I]
  rw [h8];have W:=aR.NC ws (pre.length+n*i.size) C;have e1:pre.length+n*i.size=(pre++B).length:=by simp[d]
  rw[e1,td _ _ _ D]at W;rw[q28,e1];rw[f]at d N;refine W.frame λp G=>⟨by grind,.inr ⟨b,pre,post.drop ws.length,e',fr,rfl,Ho,?_,λh=>by grind,eu G⟩⟩;grind
 have R:¬(281474976710656<Builtin.nextslicecap (n+a.size) c*i.bytes):=by have:=growslice_fits (need:=n+a.size) (old:=c) (bytes:=i.bytes) ez hb;omega
 refine⟨.slice (some ⟨w.heap.size,0,none⟩) (n+a.size) (grownCap w (n+a.size) c e),w.drew.alloc (.cells (B.toArray++ws.toArray++Builtin.zeroCells z.cells (grownCap w (n+a.size) c e-(n+a.size))) e),?_,⟨rfl,rfl,rfl⟩,k _ _ _ ?_⟩;.simp [Builtin.append_,run_underlying J,run_underlying v,sizeOf,typeInfo,zeroValue,hi,hz,Builtin.lenOf,Ho,M,R,Question.forced,E,O,newRow,grownCap];grind
 have C:aR w.heap F:=h.HK;have I:=C.push (.cells (B.toArray++ws.toArray++Builtin.zeroCells z.cells (grownCap w (n+a.size) c e-(n+a.size))) e);have Q:=grownCap_ge w (n+a.size) c e;have f:i.size=1:=A.symm▸rfl;rw[f]at d y;refine I.frame λp G=>⟨by grind,.inr ⟨w.heap.size,[],(Builtin.zeroCells z.cells (grownCap w (n+a.size) c e-(n+a.size))).toList,e,(0,0),rfl,Q,?_,λ_ i _ _ hh=>by simp at hh,?_⟩⟩;.rw [q30,size_zeroCells,y];grind
 have e2:(([]:Xa)++(B++ws)++(Builtin.zeroCells z.cells (grownCap w (n+a.size) c e-(n+a.size))).toList).toArray=B.toArray++ws.toArray++Builtin.zeroCells z.cells (grownCap w (n+a.size) c e-(n+a.size)):=by grind
 rw[e2];exact G
theorem aA.afB{t ts bytes ty e c:Nat}{a:KQ}{cs:Xa}{L:List aF}(T:Fk P t e 1 bytes)(j:P.underlying ts=some .string){s:Fb}(h:aA H L)(i:Nat)(v:aX i L=ay e 1 a n c cs) (hb:(n+s.size)*bytes<=140737488355328) (u:n+s.size<=140737488355328) (k:∀f b d,aA d (put i (ay e 1 f (n+s.size) b (cs++(fj s).map U8)) L)->K (.slice f (n+s.size) b) d) : cv P (Builtin.append_ #[t,ts] ty #[.slice a n c,.string s]) H K:=by have m:=h.FP i;rw[v]at m;exact Qz T j m hb u λf b d w=>k f b d (aA.back w)
def uQ(P:Program)(e:TypeId)(xs ys:Xa):List Nat->Option Bool
 | []=>some true
 | i::r=>match aT xs i,aT ys i with
  | some a,some b=>if jQ (P.underlying e) a&&jQ (P.underlying e) b then
    match xj a b,uQ P e xs ys r with
    | some p,some s=>some (p&&s)
    | _,_=>none
   else none
  | _,_=>none
def ade(P:Program)(t:TypeId)(xs ys:Xa):Option Bool:=
 match P.underlying t with
 | some (.array n e)=>if P.cellsOf e=1/\P.eqGuardType P.depth t=false/\(P.info? e).isSome=true then uQ P e xs ys (List.range n) else none
 | _=>none
theorem IV{P:Program}{w:World}{e:TypeId}{xs ys:Xa}(d:Nat):∀{is:List Nat} {r:Bool},uQ P e xs ys is=some r->(Op.eqItems (d+1) e 1 ⟨xs⟩ ⟨ys⟩ is).run P w=.ok r w
 | [],r,h=>by simp[uQ]at h;subst h;simp[Op.eqItems]
 | i::is,r,h=>by
  simp only[uQ]at h
  split at h
  .rename_i a b f k
   split at h
   .rename_i c;simp only[s_]at c
    split at h
    .rename_i r1 s j hs
     cases h
     simp only[Op.eqItems,q25,Sem.run_bind,uM c.1 f,uM c.2 k,Result.andThen_ok,IG c.1 c.2 j]
     cases r1
     .simp
     .simp [IV d hs]
    .cases h
   .cases h
  .cases h
theorem xp{xs ys:Xa}{r:Bool}(h:ade P t xs ys=some r):i8 P .eql t (.agg ⟨xs⟩) (.agg ⟨ys⟩) r/\i8 P .neq t (.agg ⟨xs⟩) (.agg ⟨ys⟩) (!r):=by
 unfold ade at h;split at h
 .rename_i n e f;split at h
  .rename_i a;let⟨i,hi⟩:=Option.isSome_iff_exists.1 a.2.2;have d:∀w,(Op.equalIn 10000 t (.agg ⟨xs⟩) (.agg ⟨ys⟩)).run P w=.ok r w:=by intro w;show (Op.equalIn (9998+1+1) t (.agg ⟨xs⟩) (.agg ⟨ys⟩)).run P w=.ok r w;generalize 9998=n;rw[run_equalIn_array w (n+1) ⟨xs⟩ ⟨ys⟩ f hi,a.1];exact IV n h
   constructor;.intro b c w;simp only[Sem.run_bind,run_eqGuard_agg w .eql t b c ⟨xs⟩ ⟨ys⟩ a.2.1,Result.andThen_ok,run_eql_struct,d]
   intro b c w;simp only[Sem.run_bind,run_eqGuard_agg w .neq t b c ⟨xs⟩ ⟨ys⟩ a.2.1,Result.andThen_ok,run_neq_struct,d]
  cases h
 cases h
open Go Go.ChangeShapes Go.WideShapes Go.ChangeAt Go.RowKit
section
variable {H:Type}{enc:TypeId×Value->H}{P:Program}
theorem QF{f:Func}{s:ChangeSpec}{apart k c m:Bool}{W n:World}{args:Array Value}{v:Value}{ds gs:List (DataW H)}{a pa pv:List MemPlace} (y:DataW.Whole enc P f.params.toList s.vars apart W args.toList ds gs a) (h:∀(b:Nat) (i:Nat->Bool) (hd:Bool),DataW.TrodAll enc P n b i hd f.resultTypes.toList (v.resultList f.resultTypes.size) (s.fn H (ds++gs)).results []) (d:∀i:Nat->Bool,(∀p∈a,i p.block=true)->DataW.TrodAll enc P n 0 i true f.params.toList args.toList (s.fn H (ds++gs)).args pa) (e:∀i:Nat->Bool,(∀p∈a,i p.block=true)->DataW.TrodVars enc P n i s.vars (s.fn H (ds++gs)).vars pv) (B:a=pa++pv) (hb:Below W.heap.size W n) (x:∀(j:Nat) (t:TypeId) (r:Value),f.resultTypes[j]?=some t->(v.resultList f.resultTypes.size)[j]?=some r->Value.okWide P n .any 0 t r) : s.post enc P f apart k c m W args v n:=by
 have A:∀p∈a,p.block<W.heap.size:=λp w=>y.lt p w;have hold:∀p∈a,(λb=>decide (b<W.heap.size)) p.block=true:=λp w=>by grind
 refine⟨ds,gs,a,[],pa,pv,y,h _ _ _,d _ hold,e _ hold,World.keptBut_mono (λp w=>⟨w,?_⟩) (hb.frame (·∈a)),λ_=>?_⟩;.grind
 let⟨_,_,_,_,_,C,D⟩:=y;refine⟨x,_,_,([]++pa)++pv,⟨[]++pa,pv,trodAll_append (d _ (λ_ _=>rfl)) (h _ _ _),e _ (λ_ _=>rfl),rfl,?_,?_⟩,?_⟩
 .intro b off w;have u:MemPlace.cell b off∈a:=by grind
  rw[hb.frozen (A _ u)];exact C b off u
 .grind
 grind
theorem IW(e:laidOutB P=true){W f:World}(hb:Below W.heap.size W f){c:Nat->Bool}:∀{ts:List TypeId} {vs:Xa} {ds:List (DataW H)} {ps:List MemPlace},(∀t∈ts,P.readableRec t=true/\t<P.types.size)->DataW.TrodAll enc P W 0 (λ_=>true) true ts vs ds ps->(∀x∈ps,x.block<W.heap.size)->(∀x∈ps,c x.block=true)->DataW.TrodAll enc P f 0 c true ts vs ds ps
 | [],[],[],_,_,h,_,_=>h
 | [],[],_::_,_,_,h,_,_=>h.elim
 | [],_::_,_,_,_,h,_,_=>h.elim
 | _::_,[],_,_,_,h,_,_=>h.elim
 | _::_,_::_,[],_,_,h,_,_=>h.elim
 | t::ts,v::vs,d::ds,ps,hr,h,hlt,hsp=>by obtain⟨p,q,j,k,rfl⟩:=h;have b:=hr t eh;exact⟨p,q,Go.WideElems.Trod_stays e b.1 b.2 j (λx a=>hb.same (hlt x (by simp[a]))) (λx a=>hsp x (by simp[a])),IW e hb (λt i=>hr t (by simp[i])) k (λx a=>hlt x (by simp[a])) (λx a=>hsp x (by simp[a])),rfl⟩
theorem QG{w a:World}(g:eB w.heap a.heap)(r:bZ w a):Below w.heap.size w a:=⟨r.os,r.tape,r.output,g.size,λk b=>g k b⟩
theorem acd(w:laidOutB P=true){u:FuncId}{f:Func}{s:ChangeSpec}{apart k a n:Bool}{W:World}{args:Array Value}{ds gs:List (DataW H)}{d:List MemPlace}{I:TypeId} (G:DataW.Whole enc P f.params.toList s.vars apart W args.toList ds gs d) (c:s.vars=[]) (i:f.resultTypes=#[I]) (b:P.underlying I=some .bool) (j:(s.fn H (ds++gs))={ results:=[.lit (.bool true)],args:=ds }) (D:f.params.toList.all (λt=>P.readableRec t&&decide (t<P.types.size))=true) (N:jo P u args W.heap λv Q=>v=.bool true/\eB W.heap Q) : Calls P u args W λe F=>∃v,e=.returned v/\s.post enc P f apart k a n W args v F:=by
 refine (N.at W rfl).mono λe F E=>?_;cases e <;> simp only[Fin]at E;obtain⟨m,rfl,L⟩:=E;have hb:=QG L m;refine⟨_,rfl,?_⟩;have y:=G;let⟨p,q,S,J,A,O,M⟩:=G;rw[c]at J;obtain⟨rfl,rfl⟩:=trodVars_none J;have h:∀t∈f.params.toList,P.readableRec t=true/\t<P.types.size:=λt T=>by grind
 refine QF (pa:=p) (pv:=[]) y (λ_ _ _=>?_) (λK C=>?_) (λK _=>?_) A hb (ok_one i rfl (okWide_bool_mk b _));.rw [j,i];exact trodAll_cons_mk (shut_bool b _) trodAll_mk0
 .rw [j];have B:∀x∈p,x.block<W.heap.size:=λx R=>y.lt x (by grind);exact IW w hb h S B (λx R=>C x (by grind))
 rw [c,j];rfl
end
def jC{H:Type}(enc:TypeId×Value->H)(P:Program)(W:World)(t:TypeId)(cs:Xa):Prop:=∃fuel x,DataW.trod enc P W 0 (λ_=>true) true fuel t cs=some x
section
variable {H:Type}{enc:TypeId×Value->H}{P:Program}{W:World}
theorem fV{t:TypeId}{k:IntKind}{cs:Xa}(b:P.underlying t=some (.int k))(h:jC enc P W t cs):∃n,cs=[.int k n]/\k.min<=n/\n<=k.max:=by let⟨a,x,h⟩:=h;let⟨n,d,_,c⟩:=DataW.trod_int b h;simp only[Lit.wf,s_,v_]at c;grind
theorem AA{t:TypeId}{cs:Xa}(b:P.underlying t=some .string)(h:jC enc P W t cs):∃s:Fb,cs=[.string s]/\s.size<=maxLen:=by let⟨a,x,h⟩:=h;grind [DataW.trod_string]
theorem tn{t:TypeId}{fs:Array Field}{cs:Xa}(d:P.underlying t=some (.struct fs))(h:jC enc P W t cs) : cs.length=P.cellsOf t/\∀f∈fs.toList,jC enc P W f.type ((cs.drop f.offset).take (P.cellsOf f.type)):=by
 let⟨c,x,h⟩:=h;let⟨xs,n,_,_,e,m,k⟩:=DataW.trod_struct d h;refine⟨e,λf j=>?_⟩;let⟨i,hi⟩:=List.getElem?_of_mem j;have a:fs[i]?=some f:=by grind
 have b:i<xs.length:=by grind
 have:=k i f a;rw[List.getElem?_eq_getElem b]at this;exact⟨n,_,this⟩
theorem IY{α β:Type}{f:α->Option β}:∀{l:List α} {r:List β},l.mapM f=some r->r.length=l.length/\∀(i:Nat) x,l[i]?=some x->f x=r[i]?
 | [],r,h=>by grind
 | a::l,r,h=>by rw[List.mapM_cons]at h;cases hf:f a with
  | none=>simp[hf]at h
  | some b=>cases hg:l.mapM f with
   | none=>simp[hf,hg]at h
   | some bs=>simp[hf,hg]at h;subst h;let⟨d,e⟩:=IY hg;refine⟨by simp[d],λi x c=>?_⟩;cases i with
    | zero=>simp at c;subst c;simpa using hf
    | succ i=>simpa using e i x (eu c)
theorem Hq{b:Nat}{a:Addr}{n:Nat}{vs:Xa}(h:W.cells? b a n=some vs):vs.length=n/\∀j v,aT vs j=some v->W.cell? (a.add j)=some v:=by grind [World.cells?,IY,List.length_range,iE]
theorem Xo{a:Addr}{v:Value}(h:W.cell? a=some v):a=⟨a.block,a.off,none⟩/\aM W.heap a.block a.off=some v:=by
 unfold World.cell? at h;split at h
 .rename_i c x y hb;split at h;.cases h
  rename_i hs;refine⟨?_,by grind [aM]⟩;let⟨b,o,s⟩:=a;simp_all
 cases h
theorem QH{t e:TypeId}{cs:Xa}(E:P.underlying t=some (.slice e))(hs:0<P.cellsOf e)(h:jC enc P W t cs) : ∃a n c,cs=[.slice a n c]/\n<=c/\c<=maxLen/\∀i,i<n->∃b,jC enc P W e b/\b.length=P.cellsOf e/\a=some ⟨aV a,aS a,none⟩/\∀f v,aT b f=some v->aM W.heap (aV a) (aS a+i*P.cellsOf e+f)=some v:=by
 let⟨C,x,h⟩:=h;rcases DataW.trod_slice E h with ⟨A,_⟩|⟨a,len,cap,y,rest,n,_,A,_,hb,F,hm,D,G,_⟩;.grind
 have d:∀i,i<len->∃b,W.cells? 0 (a.add (i*P.cellsOf e)) (P.cellsOf e)=some b/\jC enc P W e b:=by intro i hi;have B:=G i hi;rw[List.getElem?_eq_getElem ez]at B;let⟨b,m,u⟩:=Option.bind_eq_some_iff.1 B;exact⟨b,m,n,_,u⟩
 refine⟨some a,len,cap,A,F,hm,λi hi=>?_⟩;have j:a=⟨a.block,a.off,none⟩:=by
  let⟨b,m,_⟩:=d 0 ez;let⟨u,w⟩:=Hq m;have k:=w 0 _ (wZ ez);simp only[q2t]at k;have s:(a.add 0).add 0=a:=by simp[Addr.add]
  rw[s]at k;exact (Xo k).1
 let⟨b,m,u⟩:=d i hi;let⟨w,k⟩:=Hq m;refine⟨b,u,w,by grind [aV,aS],λf v H=>?_⟩;have s:=k f v H;rw[j,iF,iF]at s;exact (Xo s).2
theorem QJ{α:Type}{n:Nat}{Q:Nat->α->Prop}(h:∀i,i<n->∃x,Q i x):∃xs:List α,xs.length=n/\∀i (hi:i<xs.length),Q i xs[i]:=by
 induction n with
  | zero=>simp_all
  | succ n ih=>
  let⟨xs,a,c⟩:=ih λi hi=>h i ez;let⟨x,b⟩:=h n ez;refine⟨xs++[x],by simp[a],λi hi=>?_⟩;by_cases e:i<xs.length;.rw [List.getElem_append_left e];exact c i e
  have:i=n:=by grind
  subst this;rw[List.getElem_append_right ez];simp[a];exact b
theorem AB{α:Type}{ec:α->Xa}{Q:α->Prop}{t e sz:TypeId}{cs:Xa}(u:P.underlying t=some (.slice e))(hs:P.cellsOf e=sz)(m:0<sz)(h:jC enc P W t cs) (el:∀d,jC enc P W e d->d.length=sz->∃x,d=ec x/\Q x) (k:∀x,(ec x).length=sz) : ∃a c xs,cs=[.slice a xs.length c]/\xs.length<=maxLen/\aQ W.heap a (flat ec xs)/\∀x∈xs,Q x:=by
 subst hs;let⟨a,n,c,C,D,F,I⟩:=QH u m h;have B:∀i,i<n->∃x:α,Q x/\a=some ⟨aV a,aS a,none⟩/\∀f v,aT (ec x) f=some v->aM W.heap (aV a) (aS a+i*P.cellsOf e+f)=some v:=by grind
 let⟨xs,G,y⟩:=QJ B;refine⟨a,c,xs,by grind,ez,λj v A=>?_,λx w=>?_⟩
 .have b:=qf A;rw[dS k]at b;have H:j/P.cellsOf e<xs.length:=Nat.div_lt_of_lt_mul (by grind);have E:j%P.cellsOf e<P.cellsOf e:=q2g _ m;have s:j/P.cellsOf e*P.cellsOf e+j%P.cellsOf e=j:=by grind [Nat.div_add_mod]
  grind [xf]
 obtain⟨i,hi,rfl⟩:=XN w;exact (y i hi).1
theorem PL{t:TypeId}{ts:List TypeId}{vs:Xa}{ds:List (DataW H)}{ps:List MemPlace}(h:DataW.TrodAll enc P W 0 (λ_=>true) true (t::ts) vs ds ps) : ∃v r d a c,vs=v::r/\ds=d::a/\jC enc P W t v.cells.toList/\DataW.TrodAll enc P W 0 (λ_=>true) true ts r a c:=by cases vs with
  | nil=>exact h.elim
  | cons v r=>cases ds with
   | nil=>exact h.elim
   | cons d a=>let⟨p,q,⟨b,e⟩,f,_⟩:=h;exact⟨v,r,d,a,q,rfl,rfl,⟨b,_,e⟩,f⟩
theorem adf{vs:Xa}{ds:List (DataW H)}{ps:List MemPlace}(h:DataW.TrodAll enc P W 0 (λ_=>true) true [] vs ds ps):vs=[]:=by
 cases vs with
 | nil=>rfl
 | cons v r=>exact h.elim
end
section
variable {κ α:Type}{ew:κ->Value}{d_:α->Value}{r:Nat}{m:List (κ×α)}{H:aC}{F:aF}{L:List aF}{P:Program}
variable [DecidableEq κ]{t k e:Nat}{z:α}(T:jB P t k e d_ z)(KO:lH P k ew)
include T KO
theorem QK{x:κ}{K:KE}(h:aR H (mapA ew d_ r m*F)) (kk:∀(n:Nat) (O:Obj) H',aR H' (pt r O*F)->(∀(N:aF) (L:aC) (v:α) (M:Unit->aC->Prop),aR L (pt r O*N)->(∀G,aR G (mapA ew d_ r (eS x v m)*N)->M () G)->cv P (Instr.entryStore t (.map (some r)) (.int .i64 n) (d_ v)) L M)->K (.tuple #[d_ ((aK x m).getD z),.int .i64 n]) H') : cv P (Instr.mapEntry t (.map (some r)) (ew x)) H K:=by
 let⟨Y,b,a,⟨J,Q,D⟩,k,c,V⟩:=oI h;have hb:=V.get;let⟨hk,hv⟩:=tf D;have R:(aJ J).Nodup:=(Q.map Prod.fst).nodup_iff.2 Y;let⟨iz,hi,hz⟩:=T.info;refine .mk λw hw=>?_;subst hw;have h1:=qg (x:=x) R Q;cases FO:aK x J with
  | some u=>
  let⟨j,hj,Z⟩:=nc FO;let⟨s,U,I,S⟩:=hv j x u hj;have A:b[j]?=some s:=by grind
  have h2:j<b.size:=(Array.getElem?_eq_some_iff.1 A).1;have h0:b[j]=s:=(Array.getElem?_eq_some_iff.1 A).2;have B:(aK x m).getD z=u:=by grind
  rw[B]at kk;have y:(b.modify j λe=>{ e with key:=ew x })=b:=by
   apply Array.ext';rw[Array.toList_modify,Go.ChangeMaps.modify_eq_set _ _ _ _ U];have:({ s with key:=ew x }:MapEntry)=s:=by rw[<-I]
   grind [Go.WideElems.set_self]
  have hm:(b.modify j λe=>{ e with key:=ew x,val:=d_ u })=b:=by grind [Array.ext',Array.toList_modify,Go.ChangeMaps.modify_eq_set]
  refine⟨.tuple #[d_ u,.int .i64 (s.born:Nat)],_,?_,pp w r (.map b a),kk s.born _ _ (nu V) λN L v M C k2=>?_⟩;.simp [Instr.mapEntry,run_underlying T.und,Go.MapKept.run_getObj_map hb,KO.X7,KO.fnd x (aJ J) b.toList w j s hk (by grind) Z U,A,h0,I,S,KO.stay,y,Go.MapKept.run_setObj_map _ hb,goInt]
  refine .mk λw2 E=>?_;rw[<-E]at C;have d:=C.get;refine⟨(),_,?_,pp w2 r (.map (b.modify j λe=>{ e with key:=ew x,val:=d_ v }) a),k2 _ (xc (I2 Y Q D k c hj U) (nu C))⟩;have i:b.findIdx? (λe=>((e.born:Nat):Int) == ((s.born:Nat):Int))=some j:=by grind [Go.WideElems.findIdx_arr,Go.WideElems.findIdx_born]
  have f:(b.modify j λe=>{ e with val:=d_ v })=b.modify j λe=>{ e with key:=ew x,val:=d_ v }:=by grind [Array.ext',Array.toList_modify,Go.ChangeMaps.modify_eq_set]
  simp[Instr.entryStore,Go.MapKept.run_getObj_map d,asInt,asIntOf,i,f,Go.MapKept.run_setObj_map _ d]
  | none=>
  have W:x∉aJ J:=dX.1 FO;have B:(aK x m).getD z=z:=by grind
  rw[B]at kk;have hc:=λv:α=>I3 (v:=v) Y Q D k c FO;refine⟨.tuple #[d_ z,.int .i64 (a:Nat)],_,?_,pp w r (.map (b.push { key:=ew x,val:=d_ z,born:=a }) (a+1)),kk a _ _ (nu V) λN L v M C k2=>?_⟩;.simp [Instr.mapEntry,run_underlying T.und,Go.MapKept.run_getObj_map hb,KO.X7,KO.non x (aJ J) b.toList w hk W,zeroValue,typeInfo,hi,hz,Go.MapKept.run_setObj_map _ hb,goInt]
  refine .mk λw2 E=>?_;rw[<-E]at C;have d:=C.get;refine⟨(),_,?_,pp w2 r (.map (b.push { key:=ew x,val:=d_ v,born:=a }) (a+1)),k2 _ (xc (hc v) (nu C))⟩;have i:(b.push { key:=ew x,val:=d_ z,born:=a }).findIdx? (λe=>((e.born:Nat):Int) == ((a:Nat):Int))=some b.size:=by rw[Go.WideElems.findIdx_arr];exact Go.WideElems.findIdx_born (hc z).2.2.1 (j:=b.size) (e0:={ key:=ew x,val:=d_ z,born:=a }) eh
  have f:(b.push { key:=ew x,val:=d_ z,born:=a }).modify b.size (λe=>{ e with val:=d_ v })=b.push { key:=ew x,val:=d_ v,born:=a }:=by grind [Array.ext',Array.toList_modify,Array.toList_push,Array.length_toList,Go.WideElems.modify_last]
  simp[Instr.entryStore,Go.MapKept.run_getObj_map d,asInt,asIntOf,i,f,Go.MapKept.run_setObj_map _ d]
theorem aA.aal{x:κ}{K:KE}(h:aA H (mapA ew d_ r m::L)) (kk:∀(n:Nat) (O:Obj) c,aA c (pt r O::L)->(∀(L':List aF) (d:aC) (v:α) (b:Unit->aC->Prop),aA d (pt r O::L')->(∀a,aA a (mapA ew d_ r (eS x v m)::L')->b () a)->cv P (Instr.entryStore t (.map (some r)) (.int .i64 n) (d_ v)) d b)->K (.tuple #[d_ ((aK x m).getD z),.int .i64 n]) c) : cv P (Instr.mapEntry t (.map (some r)) (ew x)) H K:=QK T KO h λn O c e hs=>kk n O c e λL' d v b f k2=>hs (star L') d v b f k2
end
noncomputable def X:Ctx:={ P:=Tryz.prog,quiet:=[14,17,21,24,26,30,37,38,41,72,74,76,79,87,113,114,132,137,139,140,144,155,162,177,189,190,198,203,208,212,232,237,242,253,261,264,265,266,269,270,277,299,302,304,334,350,352,384,385,390,391,394,403,404,407,422,427,430,440,454,462,463,465,473,474,477,481,502],calls:=[2,3,4,5,6,7,8,9,10,11,12,13,14,15,16,17,18,19,20,21,22,23,24,25,26,27,28,29,30,31,32,33,34,35,36,37,38,39,40,41,42,43,44,45,46,47,48,49,50,51,52,53,54,55,56,57,58,59,60,61,62,63,64,65,66,67,68,69,70,71,72,73,74,75,76,77,78,79,80,81,82,83,84,85,86,87,88,89,90,91,92,93,94,95,96,97,98,99,100,101,102,103,104,105,106,107,108,109,110,111,112,113,114,115,116,117,118,119,120,121,122,123,124,125,126,127,128,129,130,131,132,133,134,135,136,137,138,139,140,141,142,143,144,145,146,147,148,149,150,151,152,153,154,155,156,157,158,159,160,161,162,163,164,165,166,167,168,169,170,171,172,173,174,175,176,177,178,179,180,181,182,183,184,186,187,188,189,190,191,192,193,194,195,196,197,198,199,200,201,202,203,204,205,206,207,208,209,210,211,212,213,214,215,216,217,218,219,220,221,222,223,224,225,226,227,228,229,230,231,232,233,234,235,236,237,238,239,240,241,242,243,244,245,246,247,248,249,250,251,252,253,254,255,256,257,258,259,260,261,262,263,264,265,266,267,268,269,270,271,272,273,274,275,276,277,278,279,280,281,282,283,284,285,286,287,288,289,290,291,292,293,294,295,296,297,298,299,300,301,302,303,304,305,306,307,308,309,310,311,312,313,314,315,316,317,318,319,320,321,322,323,324,325,326,327,328,329,330,331,332,333,334,335,336,337,338,339,340,341,342,343,344,345,346,347,348,349,350,351,352,353,354,355,356,357,358,359,360,361,362,363,364,365,366,367,368,369,370,371,372,373,374,375,376,377,378,379,380,381,382,383,384,385,386,387,388,389,390,391,392,393,394,395,396,397,398,399,400,402,403,404,405,406,407,408,409,410,411,412,413,414,415,416,417,418,419,420,421,423,424,425,426,427,428,429,431,432,433,434,435,436,437,438,439,440,441,442,443,444,445,446,447,448,449,450,451,452,453,454,455,456,457,458,459,460,461,462,463,464,465,466,467,468,469,470,471,473,474,475,476,477,478,479,480,481,517],CX:=[158,161,163,164,320,321,322,323,324,325,327,329,332,389],ext:=[422,430] }
theorem X_P:X.P=Tryz.prog:=rfl
theorem tp:X.P.follows .mixedOrders=true:=kf
theorem ajD:X.calls.all (wU X.P)=true:=kf
theorem tq:∀f,bK f X.calls=true->gW X.P f:=Qa ajD
abbrev CF:=jo Tryz.prog
abbrev CP:=ou Tryz.prog
abbrev CQ:=bX Tryz.prog
abbrev HU(f:FuncId)(l:Xa)(H:aC)(k:Int->Prop):Prop:=∃a0,CQ f ⟨l⟩ H (aB a0)/\k a0
abbrev nA(a0 a1:Int):Xa:=[aB a0,.int .u64 a1]
abbrev aav(a0 a1:Int):Value:=.tuple #[.int .u64 a0,.int .u64 a1]
abbrev air(a0 a1:Int):Value:=.agg ⟨[aB a0,.int .u64 a1]⟩
abbrev fk(a0:Value)(a1:Int):Value:=.tuple #[a0,aB a1]
abbrev tt(H:aC)(b o:Nat)(k:Xa->Prop):Prop:=∃a0 a1,bE H b o ([aB a0,.int .u64 a1])/\k ([aB a0,.int .u64 a1])
abbrev ID(c:Prop)[Decidable c](p q:Prop):Prop:=IF (decide c) p q
abbrev aO(H:aC)(b o:Nat)(k:Int->Prop):Prop:=∃a0,aM H b o=some (aB a0)/\k a0
abbrev TR(H:aC)(b o:Nat)(k:Int->Prop):Prop:=∃a0,aM H b o=some (.int .u64 a0)/\k a0
abbrev ak3(a0 a1:Value):Xa:=[a0,a1]
abbrev eH:=Int->aC->Prop
abbrev rA:=Int->Int->aC->Prop
abbrev uR:=Int->Int->aC->Nat
abbrev dL:=aC->Prop
abbrev afR(a0 a1 a2:Int):Xa:=[.int .u64 a0,.int .u64 a1,.int .u64 a2]
abbrev adH(a0 a1:Int):Xa:=[.int .u64 a0,.int .u64 a1]
abbrev kB(a0 a1:Fb):Xa:=[.string a0,.string a1]
abbrev E9(f:FuncId)(l:Xa)(H:aC)(k:Int->aC->Prop):Prop:=CF f ⟨l⟩ H λu H'=>∃a0,u=aB a0/\k a0 H'
abbrev BD(l h n:Int):Prop:=0<=l/\l<=h/\h<=n
abbrev jR(H:aC)(b o:Nat)(k:Fb->Prop):Prop:=∃a0,aM H b o=some (.string a0)/\k a0
abbrev ak0(a0 a1:Int):Value:=.tuple #[.int .i32 a0,aB a1]
abbrev ahW:=aC->Nat
abbrev IX(i n:Int):Prop:=0<=i/\i<n
abbrev ahO(a0:Fb)(a1:Int):Xa:=[.string a0,.int .u8 a1]
abbrev IN(c:Prop)[Decidable c](p q:Prop):Prop:=IF (!decide c) p q
abbrev lq:Xa:=[aB 0,aB 0,.int .u64 0,aB 0,aB 0,aB 0,aB 0]++cq .i64 Z0 65 0
abbrev tu(a0 a1 a2 a3 a4 a5 a6:Int)(a7:Nat->Int):Xa:=[aB a0,aB a1,.int .u64 a2,aB a3,aB a4,aB a5,aB a6]++cq .i64 a7 65 0
abbrev aj6(a0:Int)(a1:Fb):Value:=.agg ⟨[aB a0,.string a1]⟩
abbrev tv(a0 a1 a2 a3 a4 a5 a6:Int)(a7:Nat->Int):Value:=.agg ⟨[aB a0,aB a1,.int .u64 a2,aB a3,aB a4,aB a5,aB a6]++cq .i64 a7 65 0⟩
abbrev mD(a0:Value)(a1:Bool):Value:=.tuple #[a0,.bool a1]
abbrev gN(H:aC)(b o:Nat)(k:Option Nat->Prop):Prop:=∃a0,aM H b o=some (.map a0)/\k a0
abbrev AC(a0 a1:Nat)(a2 a3:Int)(a4:Fb):Xa:=[PA a0 a1,aB a2,aB a3,.string a4]
abbrev LD(a0 a1:Int):Value:=.tuple #[aB a0,aB a1]
abbrev ajF(a0:Fb)(a1:Bool):Value:=.tuple #[.string a0,.bool a1]
abbrev Q_b(f:FuncId)(l:Xa)(H:aC)(k:Bool->Prop):Prop:=∃a0,CQ f ⟨l⟩ H (.bool a0)/\k a0
abbrev agC(a0 a1:Fb)(a2:Bool):Value:=.tuple #[.string a0,.string a1,.bool a2]
abbrev IA(i n:Int)(a:KQ)(k:Nat->Nat->Prop):Prop:=(0<=i/\i<n)/\∃b o:Nat,a=some ⟨b,o,none⟩/\k b o
abbrev aag(H:aC)(b o:Nat)(k:Int->Prop):Prop:=∃a0,aM H b o=some (.int .u8 a0)/\k a0
abbrev ahV:=Int->Int->Int->aC->Prop
abbrev ahU:=Int->Int->Int->aC->Nat
abbrev lI(c:Prop)(H:aC)(b o:Nat)(k:Int->Prop):Prop:=∃a0,(c->aM H b o=some (aB a0))/\k a0
abbrev aah(H:aC)(b o:Nat)(k:Bool->Prop):Prop:=∃a0,aM H b o=some (.bool a0)/\k a0
abbrev bA(H:aC)(b o:Nat)(k:KQ->Prop):Prop:=∃a0,aM H b o=some (.pointer a0)/\k a0
abbrev SC(a0:Int)(a1:Fb):Xa:=[aB a0,.string a1]
abbrev xq(a0:Int)(a1:Fb)(a2 a3 a4 a5 a6 a7 a8:Int)(a9:Nat->Int):Xa:=[aB a0,.string a1,aB a2,aB a3,.int .u64 a4,aB a5,aB a6,aB a7,aB a8]++cq .i64 a9 65 0
abbrev AP(ts:Array Nat)(t:Nat)(l:Xa)(H:aC)(k:KQ->Nat->Nat->aC->Prop):Prop:=cv Tryz.prog (Builtin.append_ ts t ⟨l⟩) H λu H'=>∃a n c,u=.slice a n c/\k a n c H'
abbrev fW(a0:KQ)(a1 a2:Nat)(a3:KQ)(a4 a5:Nat):Xa:=[.slice a0 a1 a2,.slice a3 a4 a5]
abbrev AD:=Nat->Nat->Int->aC->Prop
abbrev ajO(a0:Value)(a1:Bool):Xa:=[a0,.bool a1]
abbrev IZ(f:FuncId)(l:Xa)(H:aC)(k:Xa->Int->aC->Prop):Prop:=CF f ⟨l⟩ H λu H'=>∃a0 a1 a2 a3 a4 a5 a6 a7 a8,u=.tuple #[.agg ⟨[aB a0,aB a1,.int .u64 a2,aB a3,aB a4,aB a5,aB a6]++cq .i64 a7 65 0⟩,aB a8]/\k ([aB a0,aB a1,.int .u64 a2,aB a3,aB a4,aB a5,aB a6]++cq .i64 a7 65 0) a8 H'
abbrev xr(H:aC)(b o:Nat)(k:Xa->Prop):Prop:=∃a0 a1,bE H b o ([aB a0,.string a1])/\k ([aB a0,.string a1])
abbrev Ja:Xa:=[aB 0,.string (⟨#[]⟩:Fb),aB 0,aB 0,.int .u64 0,aB 0,aB 0,aB 0,aB 0]++cq .i64 Z0 65 0
abbrev MU(t:Nat)(m x v:Value)(H:aC)(k:aC->Prop):Prop:=cv Tryz.prog (Instr.mapUpdate t m x v) H λ_ H'=>k H'
abbrev nB(H:aC)(b o:Nat)(k:Xa->Prop):Prop:=∃a0 a1 a2 a3 a4 a5 a6 a7,bE H b o ([aB a0,aB a1,.int .u64 a2,aB a3,aB a4,aB a5,aB a6]++cq .i64 a7 65 0)/\k ([aB a0,aB a1,.int .u64 a2,aB a3,aB a4,aB a5,aB a6]++cq .i64 a7 65 0)
abbrev AE(H:aC)(b o:Nat)(k:Xa->Prop):Prop:=∃a0 a1 a2 a3 a4 a5 a6 a7 a8 a9,bE H b o ([aB a0,.string a1,aB a2,aB a3,.int .u64 a4,aB a5,aB a6,aB a7,aB a8]++cq .i64 a9 65 0)/\k ([aB a0,.string a1,aB a2,aB a3,.int .u64 a4,aB a5,aB a6,aB a7,aB a8]++cq .i64 a9 65 0)
abbrev hZ:=Int->aC->Nat
abbrev oL:=(KQ)->Nat->Nat->Int->aC->Prop
abbrev oM:=(KQ)->Nat->Nat->Int->aC->Nat
abbrev Xz(f:FuncId)(l:Xa)(H:aC)(k:Bool->aC->Prop):Prop:=CF f ⟨l⟩ H λu H'=>∃a0,u=.bool a0/\k a0 H'
abbrev ajP(a0:Fb)(a1:KQ)(a2 a3:Nat):Xa:=[.string a0,.slice a1 a2 a3]
abbrev aiq(a0:Fb)(a1:KQ)(a2 a3:Nat):Value:=.agg ⟨[.string a0,.slice a1 a2 a3]⟩
abbrev Jb(H:aC)(b o:Nat)(k:Xa->Prop):Prop:=∃a0 a1,bE H b o ([.string a0,.string a1])/\k ([.string a0,.string a1])
abbrev dN(H:aC)(b o:Nat)(k:KQ->Nat->Nat->Prop):Prop:=∃a0 a1 a2,aM H b o=some (.slice a0 a1 a2)/\k a0 a1 a2
abbrev Jc(H:aC)(b o:Nat)(k:Xa->Prop):Prop:=∃a0 a1 a2 a3,bE H b o ([.string a0,.slice a1 a2 a3])/\k ([.string a0,.slice a1 a2 a3])
abbrev fX(a0 a1:Int):Xa:=[aB a0,aB a1]
abbrev ib(a0:KQ)(a1:Int):Xa:=[.pointer a0,aB a1]
abbrev C_u(f:FuncId)(l:Xa)(H:aC)(k:Int->aC->Prop):Prop:=CF f ⟨l⟩ H λu H'=>∃a0,u=.int .u64 a0/\k a0 H'
abbrev ae9(c:Prop)(H:aC)(b o:Nat)(k:Int->Prop):Prop:=∃a0,(c->aM H b o=some (.int .u64 a0))/\k a0
abbrev aew(H:aC)(b o:Nat)(k:Int->Int->Int->Prop):Prop:=∃a0 a1 a2,bE H b o ([.int .u64 a0,.int .u64 a1,.int .u64 a2])/\k a0 a1 a2
abbrev SJ(f:FuncId)(l:Xa)(H:aC)(k:KQ->aC->Prop):Prop:=CF f ⟨l⟩ H λu H'=>∃a0,u=.pointer a0/\k a0 H'
abbrev afS(a0:Int):Xa:=[aB a0,.slice none 0 0]
abbrev ajR(a0:Int)(a1:KQ)(a2 a3:Nat):Xa:=[aB a0,.slice a1 a2 a3]
abbrev alh(a0:Int)(a1:KQ)(a2 a3:Nat):Value:=.agg ⟨[aB a0,.slice a1 a2 a3]⟩
abbrev AF(H:aC)(b o:Nat)(k:Xa->Prop):Prop:=∃a0 a1 a2 a3,bE H b o ([aB a0,.slice a1 a2 a3])/\k ([aB a0,.slice a1 a2 a3])
abbrev Hi(f:FuncId)(l:Xa)(H:aC)(k:KQ->Nat->Nat->aC->Prop):Prop:=CF f ⟨l⟩ H λu H'=>∃a0 a1 a2,u=.slice a0 a1 a2/\k a0 a1 a2 H'
abbrev adY(f:FuncId)(l:Xa)(H:aC)(k:KQ->Nat->Nat->Int->aC->Prop):Prop:=CF f ⟨l⟩ H λu H'=>∃a0 a1 a2 a3,u=.tuple #[.slice a0 a1 a2,aB a3]/\k a0 a1 a2 a3 H'
abbrev C_f(f:FuncId)(l:Xa)(H:aC)(k:FuncId->Xa->aC->Prop):Prop:=CF f ⟨l⟩ H λu H'=>∃a0 a1,u=.func (.func a0) #[] ⟨a1⟩/\k a0 a1 H'
abbrev lJ(a0 a1:Nat)(a2:Int):Xa:=[PA a0 a1,aB a2]
abbrev ad1(a0:Int)(a1 a2 a3:Bool):Value:=.agg ⟨[aB a0,.bool a1,.bool a2,.bool a3]⟩
abbrev ahP(a0:Int)(a1:Value):Xa:=[aB a0,a1]
abbrev ajQ(a0:KQ)(a1:Int)(a2:Value):Xa:=[.pointer a0,aB a1,a2]
abbrev ahS:=Nat->Nat->Nat->Nat->aC->Prop
abbrev adu(a0:Int):Value:=.tuple #[.slice none 0 0,aB a0]
abbrev xt:Xa:=[aB 0,aB 0,.string (⟨#[]⟩:Fb),.slice none 0 0]
abbrev ahQ(a0 a1:Int)(a2:Fb)(a3:KQ)(a4 a5:Nat):Xa:=[aB a0,aB a1,.string a2,.slice a3 a4 a5]
abbrev ais(a0 a1:Int)(a2:Fb)(a3:KQ)(a4 a5:Nat):Value:=.agg ⟨[aB a0,aB a1,.string a2,.slice a3 a4 a5]⟩
abbrev tw(H:aC)(b o:Nat)(k:Xa->Prop):Prop:=∃a0 a1 a2 a3 a4 a5,bE H b o ([aB a0,aB a1,.string a2,.slice a3 a4 a5])/\k ([aB a0,aB a1,.string a2,.slice a3 a4 a5])
abbrev Jd(t:Nat)(m x:Value)(H:aC)(k:Xa->Bool->Prop):Prop:=∃a0 a1 a2 a3 a4 a5,∃th,dt Tryz.prog (Instr.lookup t m x true) H (.tuple #[.agg ⟨[aB a0,aB a1,.string a2,.slice a3 a4 a5]⟩,.bool th])/\k ([aB a0,aB a1,.string a2,.slice a3 a4 a5]) th
abbrev adv(a0:KQ)(a1 a2:Nat)(a3:Int):Value:=.tuple #[.slice a0 a1 a2,aB a3]
abbrev ajU(a0 a1:Nat)(a2:Int)(a3:KQ)(a4 a5:Nat):Xa:=[PA a0 a1,aB a2,.slice a3 a4 a5]
abbrev afT(a0 a1 a2 a3:Int):Xa:=[aB a0,aB a1,aB a2,aB a3]
abbrev aj8(a0 a1 a2 a3:Int):Value:=.agg ⟨[aB a0,aB a1,aB a2,aB a3]⟩
abbrev ait(a0 a1:Int):Value:=.agg ⟨[aB a0,aB a1]⟩
abbrev tx(H:aC)(b o:Nat)(k:Xa->Prop):Prop:=∃a0 a1,bE H b o ([aB a0,aB a1])/\k ([aB a0,aB a1])
abbrev xu(f:FuncId)(l:Xa)(H:aC)(k:Int->Int->aC->Prop):Prop:=CF f ⟨l⟩ H λu H'=>∃a0 a1,u=.tuple #[aB a0,aB a1]/\k a0 a1 H'
abbrev rB(H:aC)(b o:Nat)(k:Xa->Prop):Prop:=∃a0 a1 a2 a3,bE H b o ([aB a0,aB a1,aB a2,aB a3])/\k ([aB a0,aB a1,aB a2,aB a3])
abbrev adG(a0:Value)(a1 a2:Int):Xa:=[a0,aB a1,aB a2]
abbrev aaq(c:Prop)(H:aC)(b o:Nat)(k:KQ->Nat->Nat->Prop):Prop:=∃a0 a1 a2,(c->aM H b o=some (.slice a0 a1 a2))/\k a0 a1 a2
abbrev adM(a0 a1:Nat)(a2 a3:Int):Xa:=[PA a0 a1,aB a2,aB a3]
abbrev Je:Xa:=[aB 0,aB 0,aB 0,aB 0,aB 0,aB 0,aB 0,aB 0,aB 0,aB 0,aB 0,.slice none 0 0]
abbrev dz(a0 a1 a2 a3:Nat):Xa:=[PA a0 a1,PA a2 a3]
abbrev adt:Xa:=[aB 0,.bool false,.bool false,.bool false]
abbrev ali(a0 a1 a2:Int):Value:=.agg ⟨[aB a0,aB a1,aB a2]⟩
abbrev PR(f:FuncId)(l:Xa)(H:aC)(k:Int->aC->Prop)(kp:KE):Prop:=CP f ⟨l⟩ H (λu H'=>∃a0,u=aB a0/\k a0 H') kp
abbrev fm(H:aC)(b o:Nat)(k:KQ->Prop):Prop:=∃a0,bE H b o ([.pointer a0])/\k a0
abbrev MA(f:FuncId)(l:Xa)(H:aC)(k:aC->Prop)(kp:KE):Prop:=CP f ⟨l⟩ H (λu H'=>u=.tuple #[]/\k  H') kp
abbrev adJ(a0:Int)(a1 a2 a3:Bool):Xa:=[aB a0,.bool a1,.bool a2,.bool a3]
abbrev Jf(H:aC)(b o:Nat)(k:Xa->Prop):Prop:=∃a0 a1 a2 a3,bE H b o ([aB a0,.bool a1,.bool a2,.bool a3])/\k ([aB a0,.bool a1,.bool a2,.bool a3])
abbrev MK(a0:Value)(a1:Int):Xa:=[a0,aB a1]
abbrev xv(f:FuncId)(l:Xa)(H:aC)(k:KQ->Int->aC->Prop):Prop:=CF f ⟨l⟩ H λu H'=>∃a0 a1,u=.tuple #[.pointer a0,aB a1]/\k a0 a1 H'
abbrev P_u(f:FuncId)(l:Xa)(H:aC)(k:Int->aC->Prop)(kp:KE):Prop:=CP f ⟨l⟩ H (λu H'=>∃a0,u=.int .u64 a0/\k a0 H') kp
abbrev kC(a0 a1 a2:Int):Xa:=[aB a0,aB a1,aB a2]
abbrev ahT:=Nat->Nat->aC->Prop
abbrev agb(a0:Nat->Int):Value:=.agg ⟨cq .i64 a0 65 0⟩
abbrev uS(a0 a1 a2 a3 a4 a5 a6 a7 a8 a9 D_ E6 a12 Ft:Int)(F_:Fb)(a15 a16 a17 a18 a19 a20 a21:Int)(a22:Nat->Int):Xa:=[aB a0,aB a1,aB a2,aB a3,aB a4,aB a5,aB a6,aB a7,aB a8,aB a9,aB D_,aB E6,aB a12,aB Ft,.string F_,aB a15,aB a16,.int .u64 a17,aB a18,aB a19,aB a20,aB a21]++cq .i64 a22 65 0
abbrev Jg(H:aC)(b o:Nat)(k:Xa->Prop):Prop:=∃a0 a1 a2,bE H b o ([aB a0,aB a1,aB a2])/\k ([aB a0,aB a1,aB a2])
abbrev AG(a0 a1 a2 a3 a4 a5 a6 a7 a8 a9 D_:Int)(E6:KQ)(a12 Ft:Nat):Xa:=[aB a0,aB a1,aB a2,aB a3,aB a4,aB a5,aB a6,aB a7,aB a8,aB a9,aB D_,.slice E6 a12 Ft]
abbrev adI(a0:KQ)(a1 a2:Int):Xa:=[.pointer a0,aB a1,aB a2]
abbrev AH(f:FuncId)(l:Xa)(H:aC)(k:Xa->Int->aC->Prop):Prop:=CF f ⟨l⟩ H λu H'=>∃a0 a1 a2,u=.tuple #[.agg ⟨[aB a0,aB a1]⟩,aB a2]/\k ([aB a0,aB a1]) a2 H'
abbrev adN(t:Nat)(m x:Value)(H:aC)(k:KQ->Prop):Prop:=∃a0,dt Tryz.prog (Instr.lookup t m x false) H (.pointer a0)/\k a0
abbrev AI(a0 a1 a2 a3 a4 a5 a6 a7 a8 a9 D_:Int)(E6:KQ)(a12 Ft:Nat):Value:=.agg ⟨[aB a0,aB a1,aB a2,aB a3,aB a4,aB a5,aB a6,aB a7,aB a8,aB a9,aB D_,.slice E6 a12 Ft]⟩
abbrev SD(a0 a1:Nat)(a2:Value):Xa:=[PA a0 a1,a2]
abbrev agE(a0:KQ)(a1:Int)(a2:KQ)(a3 a4:Nat):Xa:=[.pointer a0,aB a1,.slice a2 a3 a4]
abbrev akZ(a0 a1:Value):Value:=.tuple #[a0,a1]
abbrev agy:Xa:=[aB 0,aB 0,aB 0,aB 0]
abbrev Jh:=(KQ)->Nat->Nat->aC->Prop
abbrev adO:=Nat->Nat->Bool->Int->aC->Prop
abbrev agF(a0:KQ)(a1 a2 a3:Int):Xa:=[.pointer a0,aB a1,aB a2,aB a3]
abbrev Ji(f:FuncId)(l:Xa)(H:aC)(k:Xa->Bool->Int->aC->Prop):Prop:=CF f ⟨l⟩ H λu H'=>∃a0 a1 a2 a3 a4,u=.tuple #[.agg ⟨[aB a0,aB a1,aB a2]⟩,.bool a3,aB a4]/\k ([aB a0,aB a1,aB a2]) a3 a4 H'
abbrev AJ(f:FuncId)(l:Xa)(H:aC)(k:Xa->Bool->aC->Prop):Prop:=CF f ⟨l⟩ H λu H'=>∃a0 a1 a2 a3,u=.tuple #[.agg ⟨[aB a0,aB a1,aB a2]⟩,.bool a3]/\k ([aB a0,aB a1,aB a2]) a3 H'
abbrev ZG:=Bool->aC->Prop
abbrev JF(c p q:Prop):Prop:=(c->p)/\(¬c->q)
abbrev alg(a0 a1:Fb):Value:=.agg ⟨[.string a0,.string a1]⟩
abbrev oN(H:aC)(b o:Nat)(k:Xa->Prop):Prop:=∃a0 a1 a2 a3 a4 a5 a6 a7 a8 a9 D_ E6 a12 Ft,bE H b o ([aB a0,aB a1,aB a2,aB a3,aB a4,aB a5,aB a6,aB a7,aB a8,aB a9,aB D_,.slice E6 a12 Ft])/\k ([aB a0,aB a1,aB a2,aB a3,aB a4,aB a5,aB a6,aB a7,aB a8,aB a9,aB D_,.slice E6 a12 Ft])
abbrev aj7(a0 a1 a2 a3 a4 a5 a6 a7 a8:Int):Value:=.agg ⟨[aB a0,aB a1,aB a2,aB a3,aB a4,aB a5,aB a6,aB a7,aB a8]⟩
abbrev iG(a0:KQ)(a1:Int):Value:=.tuple #[.pointer a0,aB a1]
abbrev NM(H:aC)(k:Nat->aC->Prop):Prop:=∀(b:Nat) (H':aC),b=H.size->H'=H.push (.map #[] 0)->k b H'
abbrev Jj(f:FuncId)(l:Xa)(H:aC)(k:Xa->Xa->aC->Prop)(kp:KE):Prop:=CP f ⟨l⟩ H (λu H'=>∃a0 a1 a2 a3 a4 a5 a6 a7 a8 a9,u=.tuple #[.agg ⟨[aB a0,.string a1]⟩,.agg ⟨[aB a2,aB a3,.int .u64 a4,aB a5,aB a6,aB a7,aB a8]++cq .i64 a9 65 0⟩]/\k ([aB a0,.string a1]) ([aB a2,aB a3,.int .u64 a4,aB a5,aB a6,aB a7,aB a8]++cq .i64 a9 65 0) H') kp
abbrev ajG(a0 a1:KQ)(a2 a3:Nat)(a4:Int):Value:=.tuple #[.pointer a0,.slice a1 a2 a3,aB a4]
abbrev ak1(a0 a1 a2:Int):Value:=.tuple #[aB a0,aB a1,aB a2]
abbrev ajH(a0:Int)(a1:KQ):Value:=.tuple #[aB a0,.pointer a1]
abbrev agG(a0 a1:KQ)(a2:Int):Xa:=[.pointer a0,.pointer a1,aB a2]
abbrev QL(H:aC)(b o:Nat)(k:Int->Int->Int->Int->Int->Int->Int->Int->Int->Int->Int->Int->Int->Int->Int->KQ->KQ->KQ->Option Nat->KQ->Nat->Nat->Prop):Prop:=∃a0 a1 a2 a3 a4 a5 a6 a7 a8 a9 D_ E6 a12 Ft F_ a15 a16 a17 a18 a19 a20 a21,bE H b o ([aB a0,aB a1,aB a2,aB a3,aB a4,aB a5,aB a6,aB a7,aB a8,aB a9,aB D_,aB E6,aB a12,aB Ft,aB F_,.pointer a15,.pointer a16,.pointer a17,.map a18,.slice a19 a20 a21])/\k a0 a1 a2 a3 a4 a5 a6 a7 a8 a9 D_ E6 a12 Ft F_ a15 a16 a17 a18 a19 a20 a21
abbrev af_(f:FuncId)(l:Xa)(H:aC)(k:aC->Prop):Prop:=CF f ⟨l⟩ H λu H'=>u=.tuple #[]/\k  H'
abbrev Jk:Xa:=[aB 0,aB 0,aB 0,aB 0,.bool false,.bool false,.bool false,aB 0,aB 0,aB 0,aB 0]
abbrev adK(a0 a1 a2 a3:Int)(a4 a5 a6:Bool)(a7 a8 a9 D_:Int):Xa:=[aB a0,aB a1,aB a2,aB a3,.bool a4,.bool a5,.bool a6,aB a7,aB a8,aB a9,aB D_]
abbrev Jl(H:aC)(b o:Nat)(k:Xa->Prop):Prop:=∃a0 a1 a2 a3 a4 a5 a6 a7 a8 a9 D_,bE H b o ([aB a0,aB a1,aB a2,aB a3,.bool a4,.bool a5,.bool a6,aB a7,aB a8,aB a9,aB D_])/\k ([aB a0,aB a1,aB a2,aB a3,.bool a4,.bool a5,.bool a6,aB a7,aB a8,aB a9,aB D_])
abbrev Jm(f:FuncId)(l:Xa)(H:aC)(k:Xa->Bool->aC->Prop):Prop:=CF f ⟨l⟩ H λu H'=>∃a0 a1 a2 a3 a4,u=.tuple #[.agg ⟨[aB a0,.bool a1,.bool a2,.bool a3]⟩,.bool a4]/\k ([aB a0,.bool a1,.bool a2,.bool a3]) a4 H'
abbrev pw:Xa:=[aB 0,aB 0,aB 0,aB 0,aB 0,aB 0,aB 0,aB 0,aB 0,aB 0,.slice none 0 0,.string (⟨#[]⟩:Fb),.slice none 0 0,.slice none 0 0]
abbrev kD(H:aC)(b o:Nat)(k:Xa->Prop):Prop:=∃a0 a1 a2 a3 a4 a5 a6 a7 a8 a9 D_ E6 a12 Ft F_ a15 a16 a17 a18 a19,bE H b o ([aB a0,aB a1,aB a2,aB a3,aB a4,aB a5,aB a6,aB a7,aB a8,aB a9,.slice D_ E6 a12,.string Ft,.slice F_ a15 a16,.slice a17 a18 a19])/\k ([aB a0,aB a1,aB a2,aB a3,aB a4,aB a5,aB a6,aB a7,aB a8,aB a9,.slice D_ E6 a12,.string Ft,.slice F_ a15 a16,.slice a17 a18 a19])
abbrev afQ(a0:Value)(a1 a2:Nat):Xa:=[a0,PA a1 a2]
abbrev xw(f:FuncId)(l:Xa)(H:aC)(k:Xa->aC->Prop):Prop:=CF f ⟨l⟩ H λu H'=>∃a0 a1 a2 a3 a4 a5 a6 a7 a8 a9 D_ E6 a12 Ft F_ a15 a16 a17 a18 a19,u=.agg ⟨[aB a0,aB a1,aB a2,aB a3,aB a4,aB a5,aB a6,aB a7,aB a8,aB a9,.slice D_ E6 a12,.string Ft,.slice F_ a15 a16,.slice a17 a18 a19]⟩/\k ([aB a0,aB a1,aB a2,aB a3,aB a4,aB a5,aB a6,aB a7,aB a8,aB a9,.slice D_ E6 a12,.string Ft,.slice F_ a15 a16,.slice a17 a18 a19]) H'
abbrev adL(a0 a1:Nat)(a2 a3:Int)(a4:Value):Xa:=[PA a0 a1,aB a2,aB a3,a4]
abbrev AK(a0 a1 a2 a3 a4 a5 a6 a7:Int)(a8:Fb)(a9:KQ)(D_ E6:Nat)(a12:KQ)(Ft F_:Nat):Xa:=[aB a0,aB a1,aB a2,aB a3,aB a4,aB a5,aB a6,aB a7,.string a8,.slice a9 D_ E6,.slice a12 Ft F_]
abbrev uT:Xa:=[.bool false,aB 0,aB 0,.slice none 0 0]
abbrev ahR(a0:Bool)(a1 a2:Int)(a3:KQ)(a4 a5:Nat):Xa:=[.bool a0,aB a1,aB a2,.slice a3 a4 a5]
abbrev xx(f:FuncId)(l:Xa)(H:aC)(k:Xa->Int->aC->Prop):Prop:=CF f ⟨l⟩ H λu H'=>∃a0 a1 a2 a3 a4 a5 a6,u=.tuple #[.agg ⟨[.bool a0,aB a1,aB a2,.slice a3 a4 a5]⟩,aB a6]/\k ([.bool a0,aB a1,aB a2,.slice a3 a4 a5]) a6 H'
abbrev AM(a0 a1 a2 a3 a4 a5 a6 a7:Int)(a8:Fb)(a9:KQ)(D_ E6:Nat)(a12:KQ)(Ft F_:Nat):Value:=.agg ⟨[aB a0,aB a1,aB a2,aB a3,aB a4,aB a5,aB a6,aB a7,.string a8,.slice a9 D_ E6,.slice a12 Ft F_]⟩
abbrev ae_(c:Prop)(H:aC)(b o:Nat)(k:Int->Int->Int->Int->Int->Int->Int->Prop):Prop:=∃a0 a1 a2 a3 a4 a5 a6,(c->bE H b o ([aB a0,aB a1,aB a2,aB a3,aB a4,aB a5,aB a6]))/\k a0 a1 a2 a3 a4 a5 a6
abbrev uU(H:aC)(b o:Nat)(k:Xa->Prop):Prop:=∃a0 a1 a2 a3 a4 a5 a6 a7 a8 a9 D_ E6 a12 Ft F_,bE H b o ([aB a0,aB a1,aB a2,aB a3,aB a4,aB a5,aB a6,aB a7,.string a8,.slice a9 D_ E6,.slice a12 Ft F_])/\k ([aB a0,aB a1,aB a2,aB a3,aB a4,aB a5,aB a6,aB a7,.string a8,.slice a9 D_ E6,.slice a12 Ft F_])
abbrev ajT(a0 a1:Nat)(a2:KQ)(a3 a4:Nat):Xa:=[PA a0 a1,.slice a2 a3 a4]
abbrev uV(a0 a1 a2 a3 a4 a5 a6 a7 a8 a9 D_ E6 a12 Ft F_:Int):Xa:=[aB a0,aB a1,aB a2,aB a3,aB a4,aB a5,aB a6,aB a7,aB a8,aB a9,aB D_,aB E6,aB a12,aB Ft,aB F_]
abbrev ad2(a0 a1 a2 a3 a4 a5 a6 a7 a8 a9 D_ E6 a12 Ft F_:Int):Value:=.agg ⟨[aB a0,aB a1,aB a2,aB a3,aB a4,aB a5,aB a6,aB a7,aB a8,aB a9,aB D_,aB E6,aB a12,aB Ft,aB F_]⟩
abbrev aj9(a0 a1 a2 a3 a4 a5 a6 a7 a8 a9 D_ E6 a12:Int):Value:=.agg ⟨[aB a0,aB a1,aB a2,aB a3,aB a4,aB a5,aB a6,aB a7,aB a8,aB a9,aB D_,aB E6,aB a12]⟩
abbrev ajS(a0 a1 a2 a3 a4 a5 a6 a7 a8 a9 D_ E6 a12:Int):Xa:=[aB a0,aB a1,aB a2,aB a3,aB a4,aB a5,aB a6,aB a7,aB a8,aB a9,aB D_,aB E6,aB a12]
abbrev sI:Sh:=.one (.int .i64)
abbrev sU:Sh:=.one (.int .u64)
abbrev sB:Sh:=.one .bool
abbrev sT:Sh:=.one .str
abbrev sP:Sh:=.one .ptr
abbrev sS:Sh:=.one .slice
abbrev sA:Sh:=.one .adr
abbrev GF.r(a:GF):GF:=.seq .CL a
def vcH(X:Ctx)(f:FuncId)(an:GF)(args:Xa)(H:aC)(K:KE):Prop:=match X.P.funcs[f]? with
 | some fn=>YD { nxF X fn with nop:=true } fn an args H K
 | none=>False
def ad_(X:Ctx)(f:FuncId)(an:GF)(args:Xa)(H:aC)(K KP:KE):Prop:=match X.P.funcs[f]? with
 | some fn=>uC (nxF X fn) fn an args H K KP
 | none=>False
def okN(X:Ctx)(f:FuncId):Bool:=match X.P.funcs[f]? with|some fn=>okF { nxF X fn with nop:=true } fn|none=>true
theorem abO{X:Ctx}(h:okN X f=true){fn:Func}(a:X.P.funcs[f]?=some fn):okF { nxF X fn with nop:=true } fn=true:=by unfold okN at h;rw[a]at h;exact h
theorem cL(f:FuncId)(an:GF)(h:vcH X f an B H K)(b:okN X f=true:=by kernel_rfl):CF f ⟨B⟩ H K:=by
 unfold vcH at h;split at h;case h_2=>exact h.elim
 rename_i fn a;exact Ij (X:={ nxF X fn with nop:=true }) (an:=an) X_P tp tq (X_P▸a) (abO b a) rfl h
theorem cLP(f:FuncId)(an:GF){KP:KE}(h:ad_ X f an B H K KP)(b:XP X f=true:=by kernel_rfl):CP f ⟨B⟩ H K KP:=by
 unfold ad_ at h;split at h;case h_2=>exact h.elim
 rename_i fn a;exact PY (X:=nxF X fn) (an:=an) X_P tp tq (X_P▸a) (Ik b a) rfl h
def dA:Nat->Nat->List dE->List GF->GF
 | 0,_,_,s=>s.headD .no
 | k+1,n,L,s=>match Nat.mod n 16,s,L with
  | 10,a::s,l::L=>dA k (Nat.div n 16) L (.ahw l a::s)
  | 11,s,L=>dA k (Nat.div n 16) L (.r (.cond (.r .no) .no)::s)
  | 12,s,L=>dA k (Nat.div n 16) L (.r .no::s)
  | 13,a::s,L=>dA k (Nat.div n 16) L (.seq (.r (.cond (.r .no) .no)) a::s)
  | 1,a::s,L=>dA k (Nat.div n 16) L (.r a::s)
  | 2,a::b::s,L=>dA k (Nat.div n 16) L (.seq a b::s)
  | 3,a::b::s,L=>dA k (Nat.div n 16) L (.cond a b::s)
  | 4,s,L=>dA k (Nat.div n 16) L (.CL::s)
  | 5,a::s,L=>dA k (Nat.div n 16) L (.E8 a::s)
  | 6,a::s,l::L=>dA k (Nat.div n 16) L (.loop l a::s)
  | 7,a::b::s,l::L=>dA k (Nat.div n 16) L (.Hp l a b::s)
  | 8,s,l::L=>dA k (Nat.div n 16) L (.TQ l::s)
  | 9,s,L=>dA k (Nat.div n 16) L (.no::s)
  | _,s,_=>s.headD .no
def vcI(X : Ctx) (f : FuncId) (an : GF) (args : Xa) (H : aC) (K : Value -> aC -> Prop) : Prop := match X.P.funcs[f]? with
 | some fn => YD (nxF X fn) fn an args H K
 | none => False
theorem cFE{C:Prop}(an : GF)(h : C)(c : vcI X f an B H A = C := by kernel_rfl)(hk : XP X f = true := by kernel_rfl) : CF f ⟨B⟩ H A := by
 have a := c ▸ h;unfold vcI at a;split at a;case h_2 =>exact a.elim
 rename_i fn b;exact Ij (X := nxF X fn) (an := an) X_P tp tq (X_P ▸ b) (Ik hk b) rfl a
theorem cE{C:Prop}(n : Nat)(L : List dE)(h : C)(a : vcI X f (dA 999 n L []) B H A = C := by kernel_rfl)(hk : XP X f = true := by kernel_rfl) : CF f ⟨B⟩ H A := cFE _ h a hk
theorem cN(f : FuncId)(n : Nat)(L : List dE)(h : vcH X f (dA 999 n L []) B H A)(a : okN X f = true := by kernel_rfl) : CF f ⟨B⟩ H A := cL f _ h a
theorem cM(f : FuncId)(n : Nat)(h : vcH X f (dA 999 n [] []) B H A)(a : okN X f = true := by kernel_rfl) : CF f ⟨B⟩ H A := cL f _ h a
theorem cNP(f : FuncId)(n : Nat)(L : List dE){KP:Value -> aC -> Prop}(h : ad_ X f (dA 999 n L []) B H A KP)(a : XP X f = true := by kernel_rfl) : CP f ⟨B⟩ H A KP := cLP f _ h a
theorem cMP(f : FuncId)(n : Nat){KP:Value -> aC -> Prop}(h : ad_ X f (dA 999 n [] []) B H A KP)(a : XP X f = true := by kernel_rfl) : CP f ⟨B⟩ H A KP := cLP f _ h a
def tz.code(c0b c0o c1b c1o:Nat)(rv:Value)(H:aC)(K:aC->Prop):Prop:=
 ∃eq:Bool,i8 Tryz.prog .eql 20 rv .nilIface eq/\
 ∀Jn:dL,(∀H_,(K H_)->Jn H_)->
 IF eq (
 Jn H) (
 ∃a,∃there:Bool,ne Tryz.prog (Instr.typeAssert rv 20 333 true) (mD (.agg #[(aB a)]) there)/\
 ∀Xr:dL,(∀Hu,(Jn Hu)->Xr Hu)->
 IF there (
 AL H [(aB 0)] 333 λb Xy=>
 ST Xy b 0 [(aB a)] λSM=>
 aO SM b 0 λv=>
 ST SM c0b c0o pw λHg=>
 aM Hg b 0=some (aB v)/\
 ST Hg c1b c1o [(aB v)] λHV=>
 Xr HV) (
 ST H c0b c0o pw λH_6=>
 ST H_6 c1b c1o [(aB 10)] λP_=>
 Xr P_))
theorem tz.Xh{a d b c e H K:_}{u f:FrameMode}(i:(u=.returning/\e=.nilIface/\f=.returning)\/(u=br e false/\f=br e true))(k:tz.code a d b c e H K):cH Tryz.prog 156 (dz a d b c) u H λh j=>h=f/\K j:=Ai (X:=X) (an:=(.seq .CL (.E8 (.seq .CL (.Hp [] .CL (.seq .CL (.Hp [] (.seq .CL .CL) (.seq .CL .CL)))))))) X_P tp tq Tryz.func156 i kf k
theorem QM(h : AL H pw 99 λa c3=>AL c3 [aB 0] 58 λb c4=>SJ 157 [.slice s n m] c4 λc c5=>PR 158 [.pointer c] c5 (λr1 c6=>ST c6 a 0 [aB r1] λc7=>Hi 159 [PA a 0] c7 λc8 w k0 c9=>∃(v:eH) (c2:hZ),v 0 c9/\ ∀e d,v e d->ID (e<w) (IA e w c8 λd0 d1=>bA d d0 (d1+e.toNat) λf=>C_u 160 [.pointer c] d λr2 d2=>NN f (ST d2 (aV f) (aS f) [aB (i64.wrap r2)] λx=>HU 162 [.pointer c] x λr3=>MA 161 [aB r3] x (λy=>v (i64.wrap (e+1)) y/\c2 (i64.wrap (e+1)) y<c2 e d) (λz d3=>bK 156 X.calls=true/\ cH Tryz.prog 156 (dz a 0 b 0) (br z false) d3 λd4 g=>d4=br z true/\ kD g a 0 λd5=>aO g b 0 λd6=>K (fk (.agg ⟨d5⟩) d6) g))) (aO d a 0 λa0=>∀t:dL,(∀a9,(E9 166 [.pointer c] a9 λr4 d7=>MA 161 [aB r4] d7 (λa1=>kD a1 a 0 λd8=>Xz 167 [.agg ⟨d8⟩] a1 λr5 a2=>∀c1:dL,(∀r,(kD r a 0 λd9=>ST r a 0 d9 λe0=>ST e0 b 0 [aB 0] λe1=>bK 156 X.calls=true/\ cH Tryz.prog 156 (dz a 0 b 0) .returning e1 λe2 i=>e2=.returning/\ kD i a 0 λe3=>aO i b 0 λe4=>K (fk (.agg ⟨e3⟩) e4) i)->c1 r)->IF (!r5) (bK 156 X.calls=true/\ cH Tryz.prog 156 (dz a 0 b 0) (br (.iface 333 (.agg #[aB 10])) false) a2 λe5 j=>e5=br (.iface 333 (.agg #[aB 10])) true/\ kD j a 0 λe6=>aO j b 0 λe7=>K (fk (.agg ⟨e6⟩) e7) j) (c1 a2)) (λa3 e8=>bK 156 X.calls=true/\ cH Tryz.prog 156 (dz a 0 b 0) (br a3 false) e8 λe9 k=>e9=br a3 true/\ kD k a 0 λf0=>aO k b 0 λf1=>K (fk (.agg ⟨f0⟩) f1) k))->t a9)->ID (a0=5) (CP 163 ⟨[.pointer c]⟩ d (λf2 f3=>∃b0 b1 b2,f2=(.slice b0 b1 b2)/\ ST f3 a 10 [.slice b0 b1 b2] λf4=>t f4) (λa4 f5=>bK 156 X.calls=true/\ cH Tryz.prog 156 (dz a 0 b 0) (br a4 false) f5 λf6 l=>f6=br a4 true/\ kD l a 0 λf7=>aO l b 0 λf8=>K (fk (.agg ⟨f7⟩) f8) l)) (∀u:dL,(∀b3,(t b3)->u b3)->ID (a0=8) (CP 164 ⟨[.pointer c]⟩ d (λf9 g0=>∃b4 b5 b6 b7,f9=(aiq b4 b5 b6 b7)/\ ST g0 a 11 (ajP b4 b5 b6 b7) λg1=>CF 165 ⟨(ib c 4096)⟩ g1 λg2 g3=>∃r6,g2=(.string r6)/\ cv Tryz.prog (convert 9 63 (.string r6)) g3 λg4 g5=>∃b8 b9 c0,g4=(.slice b8 b9 c0)/\ ST g5 a 13 [.slice b8 b9 c0] λa5=>HU 162 [.pointer c] a5 λr7=>MA 161 [aB r7] a5 (λg6=>u g6) (λa6 g7=>bK 156 X.calls=true/\ cH Tryz.prog 156 (dz a 0 b 0) (br a6 false) g7 λg8 o=>g8=br a6 true/\ kD o a 0 λg9=>aO o b 0 λi0=>K (fk (.agg ⟨g9⟩) i0) o)) (λa7 i1=>bK 156 X.calls=true/\ cH Tryz.prog 156 (dz a 0 b 0) (br a7 false) i1 λi2 p=>i2=br a7 true/\ kD p a 0 λi3=>aO p b 0 λi4=>K (fk (.agg ⟨i3⟩) i4) p)) (u d)))) (λa8 i5=>bK 156 X.calls=true/\ cH Tryz.prog 156 (dz a 0 b 0) (br a8 false) i5 λi6 q=>i6=br a8 true/\ kD q a 0 λi7=>aO q b 0 λi9=>K (fk (.agg ⟨i7⟩) i9) q)):CF 86 ⟨[.slice s n m]⟩ H K:=cE 0x1111215612399251144215174171149121749c [[],[],[],[(16,sI)]] h
section
variable {a b c d e f g i j k a0 a1 a2 a3 a4 a5 a6 a7 a8 a9 b0 b1 b2 b3 b4 b5 b6 b7 b8 b9 c0 c1 c2 c3 c4 c5 c6 c7 c8 c9 d0 d1 d2 d3 d4 d5 d6 d7 d8 d9 e0 e1 e2 e3 e4 e5 e6 e7 e8 e9 f0 f1 f2 f3 f4 f5 f6 f7 f8 f9 g0 g1 g2 g3 g4 g5 g6 g7 g8 g9 i0 i1 i2 i3 i4 i5 i6 i7 i9 k0 k1 k2 k3 k4 k5 k6 k7 k8 k9 m0 m1 m2 m3 m4 m5 m6 m7 m8 m9 n0:Int}{l m n o p q r n1 n2 n3 n4 n5 n6 n7 n8 n9 o0 o1 o2 o3 o4 o5 o6 o7 o8 o9 p0 p1 p2 p3 p4 p5 p6 p7 p8 p9 q0 q1 q2 q3 q4 q5 q6 q7 q8 q9 s0 s1 s2 s3 s4 s5 s6 s7 s8 s9 t0 t1 t2 t3 t4 t5 t6 t7 t8 t9 u0:Nat}{s t u v u1 u2 u3 u4 u5 u6 u7 u9 v0 v1 v2 v3 v4 v5 v6 v7 v8 v9 w0 w1 w2 w3 w4 w5 w6 w7 w8 w9 x0 x1:KQ}{w x x2 x3 x4 x5 x6 x7 x8 x9 z0 z1 z2 z3 z4 z5 z6:Fb}{y z7 z8 z9 aa ab ac ad ae af ag ai aj ak al am:Bool}{z an ao ap aq ar au av aw:Nat->Int}{az ah ba bb bc bd be bf:Value}{bj bk bl bm bn bo bp bq:Xa}{bt bu bv bw bx bz:FuncId}{cb cc cd ce cf cg ci cj ck cl cm cn:Option Nat}{H:aC}{K KP:KE}
theorem QN(h : HU 265 [.int .u64 a] H λb=>K (aB (i64.wrap (64-b))) H):CF 477 ⟨[.int .u64 a]⟩ H K:=cE 28 [] h
def mE.r1(hi lo y:Int)(K:KE)(r q1 q0:Int)(SM:aC):Prop:=
 ((0:Int)<=(u64.wrap r))/\
 K (aav (u64.wrap ((u64.wrap (q1*4294967296))+q0)) (Int.fdiv (u64.wrap ((u64.wrap ((u64.wrap ((u64.wrap ((u64.wrap ((u64.wrap ((aZ .or .u64 (u64.wrap (hi*2^(min (Int.toNat (u64.wrap r)) (u64.bits)))) (Int.fdiv lo (2^(min (Int.toNat (u64.wrap (64-(u64.wrap r)))) (u64.bits)))))*4294967296))+(Int.fdiv (u64.wrap (lo*2^(min (Int.toNat (u64.wrap r)) (u64.bits)))) (2^(min (Int.toNat 32) (u64.bits))))))-(u64.wrap (q1*(u64.wrap (y*2^(min (Int.toNat (u64.wrap r)) (u64.bits))))))))*4294967296))+(aZ .and .u64 (u64.wrap (lo*2^(min (Int.toNat (u64.wrap r)) (u64.bits)))) 4294967295)))-(u64.wrap (q0*(u64.wrap (y*2^(min (Int.toNat (u64.wrap r)) (u64.bits)))))))) (2^(min (Int.toNat (u64.wrap r)) (u64.bits))))) SM
def mE.r3(hi lo y:Int)(K:KE)(r q1:Int)(Xy:aC):Prop:=
 ((Int.fdiv (u64.wrap (y*2^(min (Int.toNat (u64.wrap r)) (u64.bits)))) (2^(min (Int.toNat 32) (u64.bits))))≠0)/\
 ∀Jn3:eH,(∀q0 SM,mE.r1 hi lo y K r q1 q0 SM->Jn3 q0 SM)->
 ∃(Inv:rA) (mu:uR),Inv (u64.wrap ((u64.wrap ((u64.wrap ((u64.wrap ((aZ .or .u64 (u64.wrap (hi*2^(min (Int.toNat (u64.wrap r)) (u64.bits)))) (Int.fdiv lo (2^(min (Int.toNat (u64.wrap (64-(u64.wrap r)))) (u64.bits)))))*4294967296))+(Int.fdiv (u64.wrap (lo*2^(min (Int.toNat (u64.wrap r)) (u64.bits)))) (2^(min (Int.toNat 32) (u64.bits))))))-(u64.wrap (q1*(u64.wrap (y*2^(min (Int.toNat (u64.wrap r)) (u64.bits))))))))-(u64.wrap ((u64.wrap (Int.tdiv (u64.wrap ((u64.wrap ((u64.wrap ((aZ .or .u64 (u64.wrap (hi*2^(min (Int.toNat (u64.wrap r)) (u64.bits)))) (Int.fdiv lo (2^(min (Int.toNat (u64.wrap (64-(u64.wrap r)))) (u64.bits)))))*4294967296))+(Int.fdiv (u64.wrap (lo*2^(min (Int.toNat (u64.wrap r)) (u64.bits)))) (2^(min (Int.toNat 32) (u64.bits))))))-(u64.wrap (q1*(u64.wrap (y*2^(min (Int.toNat (u64.wrap r)) (u64.bits)))))))) (Int.fdiv (u64.wrap (y*2^(min (Int.toNat (u64.wrap r)) (u64.bits)))) (2^(min (Int.toNat 32) (u64.bits))))))*(Int.fdiv (u64.wrap (y*2^(min (Int.toNat (u64.wrap r)) (u64.bits)))) (2^(min (Int.toNat 32) (u64.bits)))))))) (u64.wrap (Int.tdiv (u64.wrap ((u64.wrap ((u64.wrap ((aZ .or .u64 (u64.wrap (hi*2^(min (Int.toNat (u64.wrap r)) (u64.bits)))) (Int.fdiv lo (2^(min (Int.toNat (u64.wrap (64-(u64.wrap r)))) (u64.bits)))))*4294967296))+(Int.fdiv (u64.wrap (lo*2^(min (Int.toNat (u64.wrap r)) (u64.bits)))) (2^(min (Int.toNat 32) (u64.bits))))))-(u64.wrap (q1*(u64.wrap (y*2^(min (Int.toNat (u64.wrap r)) (u64.bits)))))))) (Int.fdiv (u64.wrap (y*2^(min (Int.toNat (u64.wrap r)) (u64.bits)))) (2^(min (Int.toNat 32) (u64.bits)))))) Xy/\
 ∀aad U_ Hg,Inv aad U_ Hg->
 IF ((decide (4294967296<=U_))||(decide ((u64.wrap ((u64.wrap (4294967296*aad))+(aZ .and .u64 (u64.wrap (lo*2^(min (Int.toNat (u64.wrap r)) (u64.bits)))) 4294967295)))<(u64.wrap (U_*(aZ .and .u64 (u64.wrap (y*2^(min (Int.toNat (u64.wrap r)) (u64.bits)))) 4294967295)))))) (
 ID (4294967296<=(u64.wrap (aad+(Int.fdiv (u64.wrap (y*2^(min (Int.toNat (u64.wrap r)) (u64.bits)))) (2^(min (Int.toNat 32) (u64.bits))))))) (
 Jn3 (u64.wrap (U_-1)) Hg) (
 Inv (u64.wrap (aad+(Int.fdiv (u64.wrap (y*2^(min (Int.toNat (u64.wrap r)) (u64.bits)))) (2^(min (Int.toNat 32) (u64.bits)))))) (u64.wrap (U_-1)) Hg/\mu (u64.wrap (aad+(Int.fdiv (u64.wrap (y*2^(min (Int.toNat (u64.wrap r)) (u64.bits)))) (2^(min (Int.toNat 32) (u64.bits)))))) (u64.wrap (U_-1)) Hg<mu aad U_ Hg)) (
 Jn3 U_ Hg)
def mE.r5(hi lo y:Int)(K:KE)(Hu:aC):Prop:=
 ID (hi=0) (
 (y≠0)/\
 (y≠0)/\
 K (aav (u64.wrap (Int.tdiv lo y)) (Int.tmod lo y)) Hu) (
 HU 477 [(.int .u64 y)] Hu λr=>
 ((0:Int)<=(u64.wrap r))/\
 ((0:Int)<=32)/\
 ((0:Int)<=(u64.wrap r))/\
 ((0:Int)<=(u64.wrap (64-(u64.wrap r))))/\
 ((0:Int)<=(u64.wrap r))/\
 ((0:Int)<=32)/\
 ((Int.fdiv (u64.wrap (y*2^(min (Int.toNat (u64.wrap r)) (u64.bits)))) (2^(min (Int.toNat 32) (u64.bits))))≠0)/\
 ∀ZF:eH,(∀q1 Xy,mE.r3 hi lo y K r q1 Xy->ZF q1 Xy)->
 ∃(Inv1:rA) (mu1:uR),Inv1 (u64.wrap (Int.tdiv (aZ .or .u64 (u64.wrap (hi*2^(min (Int.toNat (u64.wrap r)) (u64.bits)))) (Int.fdiv lo (2^(min (Int.toNat (u64.wrap (64-(u64.wrap r)))) (u64.bits))))) (Int.fdiv (u64.wrap (y*2^(min (Int.toNat (u64.wrap r)) (u64.bits)))) (2^(min (Int.toNat 32) (u64.bits)))))) (u64.wrap ((aZ .or .u64 (u64.wrap (hi*2^(min (Int.toNat (u64.wrap r)) (u64.bits)))) (Int.fdiv lo (2^(min (Int.toNat (u64.wrap (64-(u64.wrap r)))) (u64.bits)))))-(u64.wrap ((u64.wrap (Int.tdiv (aZ .or .u64 (u64.wrap (hi*2^(min (Int.toNat (u64.wrap r)) (u64.bits)))) (Int.fdiv lo (2^(min (Int.toNat (u64.wrap (64-(u64.wrap r)))) (u64.bits))))) (Int.fdiv (u64.wrap (y*2^(min (Int.toNat (u64.wrap r)) (u64.bits)))) (2^(min (Int.toNat 32) (u64.bits))))))*(Int.fdiv (u64.wrap (y*2^(min (Int.toNat (u64.wrap r)) (u64.bits)))) (2^(min (Int.toNat 32) (u64.bits)))))))) Hu/\
 ∀T_ ND HV,Inv1 T_ ND HV->
 IF ((decide (4294967296<=T_))||(decide ((u64.wrap ((u64.wrap (4294967296*ND))+(Int.fdiv (u64.wrap (lo*2^(min (Int.toNat (u64.wrap r)) (u64.bits)))) (2^(min (Int.toNat 32) (u64.bits))))))<(u64.wrap (T_*(aZ .and .u64 (u64.wrap (y*2^(min (Int.toNat (u64.wrap r)) (u64.bits)))) 4294967295)))))) (
 ID (4294967296<=(u64.wrap (ND+(Int.fdiv (u64.wrap (y*2^(min (Int.toNat (u64.wrap r)) (u64.bits)))) (2^(min (Int.toNat 32) (u64.bits))))))) (
 ZF (u64.wrap (T_-1)) HV) (
 Inv1 (u64.wrap (T_-1)) (u64.wrap (ND+(Int.fdiv (u64.wrap (y*2^(min (Int.toNat (u64.wrap r)) (u64.bits)))) (2^(min (Int.toNat 32) (u64.bits)))))) HV/\mu1 (u64.wrap (T_-1)) (u64.wrap (ND+(Int.fdiv (u64.wrap (y*2^(min (Int.toNat (u64.wrap r)) (u64.bits)))) (2^(min (Int.toNat 32) (u64.bits)))))) HV<mu1 T_ ND HV)) (
 ZF T_ HV))
theorem QO(h : ∀i:dL,(∀d,(∀j:dL,(∀e,mE.r5 a b c K e->j e)->ID (c<=a) (∃f,aM d 2 0=some f/\ aeI f (λ(k:Value) (l:aC)=>False) d) (j d))->i d)->ID (c=0) (∃g,aM H 1 0=some g/\ aeI g (λ(m:Value) (n:aC)=>False) H) (i H)):CF 464 ⟨(afR a b c)⟩ H K:=cE 0x12174921749d11111111112a62139951113991112a6213995111399c [[(16,sU),(18,sU)],[(18,sU)],[(15,sU),(16,sU)],[(15,sU)],[],[]] h
theorem QP(h : ID (a<0) (K (.int .u64 (u64.wrap (0-(u64.wrap a)))) H) (K (.int .u64 (u64.wrap a)) H)):CF 463 ⟨[aB a]⟩ H K:=cE 476 [] h
theorem QQ(h : ((0:Int)<=32)/\ ((0:Int)<=32)/\ ((0:Int)<=32)/\ ((0:Int)<=32)/\ ((0:Int)<=32)/\ K (aav (u64.wrap ((u64.wrap ((u64.wrap ((Int.fdiv a (2^(min (Int.toNat 32) (u64.bits))))*(Int.fdiv b (2^(min (Int.toNat 32) (u64.bits))))))+(Int.fdiv (u64.wrap ((u64.wrap ((Int.fdiv a (2^(min (Int.toNat 32) (u64.bits))))*(aZ .and .u64 b 4294967295)))+(Int.fdiv (u64.wrap ((aZ .and .u64 a 4294967295)*(aZ .and .u64 b 4294967295))) (2^(min (Int.toNat 32) (u64.bits)))))) (2^(min (Int.toNat 32) (u64.bits))))))+(Int.fdiv (u64.wrap ((aZ .and .u64 (u64.wrap ((u64.wrap ((Int.fdiv a (2^(min (Int.toNat 32) (u64.bits))))*(aZ .and .u64 b 4294967295)))+(Int.fdiv (u64.wrap ((aZ .and .u64 a 4294967295)*(aZ .and .u64 b 4294967295))) (2^(min (Int.toNat 32) (u64.bits)))))) 4294967295)+(u64.wrap ((aZ .and .u64 a 4294967295)*(Int.fdiv b (2^(min (Int.toNat 32) (u64.bits)))))))) (2^(min (Int.toNat 32) (u64.bits)))))) (u64.wrap (a*b))) H):CF 462 ⟨(adH a b)⟩ H K:=cE 18764998447388 [] h
theorem QR(h : jR H m n λa0=>ID ((a0.size:Int)=0) (∃(i:dL) (y:ahW),i H/\ ∀a,i a->jR a o p λa1=>ID (0<(a1.size:Int)) (jR a o p λa2=>CF 456 ⟨[.string a2]⟩ a λa3 k=>∃b1 r1,a3=(ak0 b1 r1)/\ jR k o p λs=>(BD 0 r1 s.size)/\ fu Tryz.prog l [.string (s.extract 0 r1.toNat)] k λa4 g=>∃r2,a4=(.bool r2)/\ IF (!r2) (K (.tuple #[]) g) (jR g o p λd=>(BD r1 d.size d.size)/\ ST g o p [.string (d.extract r1.toNat d.size)] λt=>i t/\y t<y a)) (K (.tuple #[]) a)) (∃(j:dL) (z:ahW),j H/\ ∀c,j c->jR c o p λa5=>jR c m n λa6=>E9 457 (kB a5 a6) c λr3 b=>ID (r3<0) (jR b o p λa7=>fu Tryz.prog l [.string a7] b λa8 a9=>∃r4,a8=(.bool r4)/\ K (.tuple #[]) a9) (jR b o p λu=>aO b q r λv=>(BD 0 (i64.wrap (r3+v)) u.size)/\ fu Tryz.prog l [.string (u.extract 0 ((i64.wrap (r3+v)).toNat))] b λb0 e=>∃r5,b0=(.bool r5)/\ IF (!r5) (K (.tuple #[]) e) (jR e o p λf=>jR e m n λw=>(BD (i64.wrap (r3+(w.size:Int))) f.size f.size)/\ ST e o p [(.string (f.extract ((i64.wrap (r3+(w.size:Int))).toNat) f.size))] λx=>j x/\z x<z c)))):CF 455 ⟨[.func (.yield l) #[] #[],PA m n,PA o p,PA q r]⟩ H K:=cE 0x213256213995121399499256512139912139944 [[],[]] h
theorem QS(h : (((decide ((x.size:Int)<=(w.size:Int)))=true)->(BD (i64.wrap ((w.size:Int)-(x.size:Int))) w.size w.size))/\ K (.bool ((decide ((x.size:Int)<=(w.size:Int)))&&((w.extract ((i64.wrap ((w.size:Int)-(x.size:Int))).toNat) w.size).toList == x.toList))) H):CF 454 ⟨(kB w x)⟩ H K:=cE 28 [] h
theorem QU(h : IF ((decide ((x.size:Int)=0))||(x.toList == w.toList)) (K (aB 0) H) (ID ((x.size:Int)=1) ((IX 0 x.size)/\ E9 400 (ahO w (F3 x 0)) H λl m=>K (aB l) m) (ID ((w.size:Int)<=(x.size:Int)) (K (aB (-1)) H) (aO H 0 0 λn=>IF ((decide (x.size<=n))&&(decide ((w.size:Int)<=64))) (False) ((IX 0 x.size)/\ (IX 1 x.size)/\ ∃(f:rA) (k:uR),f 0 0 H/\ ∀b c d,f b c d->ID (b<(i64.wrap ((i64.wrap ((w.size:Int)-(x.size:Int)))+1))) ((IX b w.size)/\ ∀e:eH,(∀i1 a,((IX (i64.wrap (i1+1)) w.size)/\ (((decide ((F3 w (i64.wrap (i1+1)).toNat)=(F3 x 1)))=true)->(BD i1 (i64.wrap (i1+(x.size:Int))) w.size))/\ IF ((decide ((F3 w (i64.wrap (i1+1)).toNat)=(F3 x 1)))&&((w.extract i1.toNat ((i64.wrap (i1+(x.size:Int))).toNat)).toList == x.toList)) (K (aB i1) a) (aO a 0 0 λg=>∃r1,(((decide (x.size<=g))=true)->CQ 473 #[aB (i64.wrap (i1+1))] a (aB r1))/\ IF ((decide (x.size<=g))&&(decide (r1<(i64.wrap (c+1))))) ((BD (i64.wrap (i1+1)) w.size w.size)/\ False) (aO a 0 0 λi=>(((decide (i<x.size))=true)->((0:Int)<=4))/\ IF (((decide (i<x.size))&&(decide ((i64.wrap (4+(Int.fdiv (i64.wrap (i1+1)) (2^(min (Int.toNat 4) (i64.bits))))))<=(i64.wrap (c+1)))))&&(decide ((i64.wrap (i1+1))<(i64.wrap ((i64.wrap ((w.size:Int)-(x.size:Int)))+1))))) ((BD (i64.wrap (i1+1)) w.size w.size)/\ HU 474 (kB (w.extract ((i64.wrap (i1+1)).toNat) w.size) x) a λr2=>ID (r2<0) (K (aB (-1)) a) (K (aB (i64.wrap ((i64.wrap (i1+1))+r2))) a)) (f (i64.wrap (i1+1)) (i64.wrap (c+1)) a/\k (i64.wrap (i1+1)) (i64.wrap (c+1)) a<k b c d))))->e i1 a)->IN ((F3 w b.toNat)=(F3 x 0)) ((BD (i64.wrap (b+1)) (i64.wrap ((i64.wrap ((w.size:Int)-(x.size:Int)))+1)) w.size)/\ E9 400 (ahO (w.extract ((i64.wrap (b+1)).toNat) ((i64.wrap ((i64.wrap ((w.size:Int)-(x.size:Int)))+1)).toNat)) (F3 x 0)) d λr3 j=>ID (r3<0) (K (aB (-1)) j) (e (i64.wrap (b+(i64.wrap (r3+1)))) j)) (e b d)) (K (aB (-1)) d)))))):CF 453 ⟨(kB w x)⟩ H K:=cE 0x112513c13c13cb111112562139952171d49d11131dc131dc9c [[(8,sI)],[(8,sI),(10,sI)]] h
def AN.r1(Inv:Int->Int->aC->Prop)(mu:Int->Int->aC->Nat)(n1 t37:Int)(H_:aC)(n2:Int)(SM:aC):Prop:=
 Inv n2 (i64.wrap (t37+1)) SM/\mu n2 (i64.wrap (t37+1)) SM<mu n1 t37 H_
theorem QV(h : ID (b<a) (K (.bool false) H) (aO H l m λy=>ID ((u64.wrap y)<=(u64.wrap ((u64.wrap b)-(u64.wrap a)))) (K (.bool false) H) (gN H l (m+1) λz=>∃v:Int,dt Tryz.prog (Builtin.len_ #[316] 3 #[.map z]) H (.int .i64 v)/\ ∃(g:rA) (a4:uR),g v 0 H/\ ∀d e c,g d e c->ID (e<(i64.wrap ((i64.wrap (u64.wrap ((u64.wrap b)-(u64.wrap a))))+1))) (gN c l (m+1) λa0=>∃j k n o p q r s,∃x:Bool,dt Tryz.prog (Instr.lookup 316 (.map a0) (aj6 (i64.wrap (a+e)) w) true) c (mD (tv j k n o p q r s) x)/\ AL c lq 181 λa1 a2=>ST a2 a1 0 (tu j k n o p q r s) λi=>∀f:eH,(∀t u,AN.r1 g a4 d e c t u->f t u)->IF (!x) (f (i64.wrap (d+1)) i) (f d i)) (aO c l m λa3=>K (.bool (decide (d<=a3))) c)))):CF 445 ⟨(AC l m a b w)⟩ H K:=cE 0x1d1d1215612399251117494c [[(10,sI)],[(10,sI),(37,sI)]] h
theorem QW(h : ID (c<1) (K (LD 0 11) H) (∃g,CQ 463 #[aB a] H (.int .u64 g)/\ ∃r1,CQ 463 #[aB b] H (.int .u64 r1)/\ ∃r2 r3,CQ 462 #[.int .u64 g,.int .u64 r1] H (aav r2 r3)/\ ID ((u64.wrap c)<=r2) (K (LD 0 12) H) (CF 464 ⟨(afR r2 r3 (u64.wrap c))⟩ H λj d=>∃r4 r5,j=(aav r4 r5)/\ ID (9223372036854775808<r4) (K (LD 0 12) d) (∀f:eH,(∀i e,(∃r6 r7,CQ 465 #[.int .u64 i,.bool (!((decide (a<0)) == (decide (b<0))))] e (LD r6 r7)/\ K (LD r6 r7) e)->f i e)->IF ((!decide (r5=0))&&(!((!((decide (a<0)) == (decide (b<0)))) == y))) (f (u64.wrap (r4+1)) d) (f r4 d))))):CF 441 ⟨[aB a,aB b,aB c,.bool y]⟩ H K:=cE 511397949699228 [[(13,sU)]] h
theorem QX(h : Q_b 454 (kB w x) H λa=>IF (!a) (K (ajF w false) H) ((BD 0 (i64.wrap ((w.size:Int)-(x.size:Int))) w.size)/\ K (ajF (w.extract 0 ((i64.wrap ((w.size:Int)-(x.size:Int))).toNat)) true) H)):CF 427 ⟨(kB w x)⟩ H K:=cE 476 [] h
theorem QY(h : E9 453 (kB w x) H λa b=>ID (0<=a) ((BD 0 a w.size)/\ (BD (i64.wrap (a+(x.size:Int))) w.size w.size)/\ K (agC (w.extract 0 a.toNat) (w.extract ((i64.wrap (a+(x.size:Int))).toNat) w.size) true) b) (K (agC w (⟨#[]⟩:Fb) false) b)):CF 426 ⟨(kB w x)⟩ H K:=cE 74172 [] h
theorem QZ(h : AL H (nA 0 0) 177 λe g=>IN ((l:Int)=16) (ST g e 0 (nA 0 0) λi=>tt i e 0 λp=>K (mD (.agg ⟨p⟩) false) i) (∃(f:ahV) (o:ahU),f 0 0 0 g/\ ∀c d a b,f c d a b->ID (a<8) (((0:Int)<=8)/\ IA a l s λq r=>aag b q (r+a.toNat) λj=>((0:Int)<=8)/\ IA (i64.wrap (8+a)) l s λt u=>aag b t (u+(i64.wrap (8+a)).toNat) λk=>f (aZ .or .u64 (u64.wrap (c*2^(min (Int.toNat 8) (u64.bits)))) (u64.wrap j)) (aZ .or .u64 (u64.wrap (d*2^(min (Int.toNat 8) (u64.bits)))) (u64.wrap k)) (i64.wrap (a+1)) b/\o (aZ .or .u64 (u64.wrap (c*2^(min (Int.toNat 8) (u64.bits)))) (u64.wrap j)) (aZ .or .u64 (u64.wrap (d*2^(min (Int.toNat 8) (u64.bits)))) (u64.wrap k)) (i64.wrap (a+1)) b<o c d a b) (ST b e 0 (nA (i64.wrap c) d) λn=>tt n e 0 λv=>K (mD (.agg ⟨v⟩) true) n))):CF 425 ⟨[.slice s l m]⟩ H K:=cE 0x1d1215612399251144c [[(4,sU),(5,sU),(11,sI)]] h
theorem Ra(h : aO H l m λs=>aO H n o λt=>bA H p q λe=>NN e (aO H (aV e) (aS e) λu=>ST H l (m+1) [.bool (decide (s<(i64.wrap (t-u))))] λf=>aah f l (m+2) λg=>((g=false)->True)/\ ∃j,((g=false)->aM f l (m+1)=some (.bool j))/\ ST f l (m+2) [.bool (g||j)] λa=>aah a l (m+1) λb=>(((!b)=true)->True)/\ ∃c,(((!b)=true)->aM a l (m+3)=some (.bool c))/\ ∃d,((((!b)&&(!c))=true)->aM a r n1=some (.bool d))/\ (((((!b)&&(!c))=true)/\(!d)=false)->True)/\ lI ((((!b)&&(!c))=true)/\(!d)=false) a l m λv=>lI ((((!b)&&(!c))=true)/\(!d)=false) a n2 n3 λw=>∀i:dL,(∀k,(K (aB 0) k)->i k)->IF (((!b)&&(!c))&&((!d)||(decide (v<w)))) (aO a l m λx=>ST a n2 n3 [aB x] λy=>ST y r n1 [.bool true] λz=>i z) (i a))):CF 418 ⟨[PA l m,PA n o,PA p q,PA r n1,PA n2 n3]⟩ H K:=cE 4582372508 [[]] h
theorem Rb(h : ID (b<a) (K (aB 10) H) (Xz 445 (AC l m a b w) H λc9 a7=>IF (!c9) (K (aB 20) a7) (∃(a5:oL) (c7:oM),a5 none 0 0 0 a7/\ ∀o f a2 d p,a5 o f a2 d p->ID (d<(i64.wrap ((i64.wrap (b-a))+1))) (AL p (SC 0 (⟨#[]⟩:Fb)) 174 λj d0=>ST d0 j 0 (SC (i64.wrap (a+d)) w) λe=>∀a4:AD,(∀b5 b6 a3 g,(IN (a3=0) (K (aB a3) g) (∃c0 b7,bE g j 0 (SC c0 b7)/\ ∃b8 b9 c1 c2 c3 c4 c5 c6,bE g b5 b6 (tu b8 b9 c1 c2 c3 c4 c5 c6)/\ AL g (xq c0 b7 b8 b9 c1 c2 c3 c4 c5 c6) 184 λd1 d2=>AP #[163,163] 163 (fW o f a2 (some ⟨d1,0,none⟩) 1 1) d2 λa8 a9 b0 b1=>a5 a8 a9 b0 (i64.wrap (d+1)) b1/\c7 a8 a9 b0 (i64.wrap (d+1)) b1<c7 o f a2 d p))->a4 b5 b6 a3 g)->gN e l (m+1) λz=>xr e j 0 λa0=>∃q r s t u v x y,dt Tryz.prog (Instr.lookup 316 (.map z) (.agg ⟨a0⟩) false) e (tv q r s t u v x y)/\ (IZ 446 (ajO (tv q r s t u v x y) (decide (a=b))) e λd3 d4 d5=>AL d5 lq 181 λb2 d6=>ST d6 b2 0 d3 λd7=>a4 b2 0 d4 d7)/\ (AL e lq 181 λb3 k=>dt Tryz.prog (Instr.lookup 316 (.map z) (.agg ⟨a0⟩) false) k (tv q r s t u v x y)/\ bE k j 0 a0/\ aM k l (m+1)=some (.map z)/\ IZ 446 (ajO (tv q r s t u v x y) (decide (a=b))) k λd8 d9 e0=>ST e0 b3 0 d8 λe1=>a4 b3 0 d9 e1)) (∃(a6:eH) (c8:hZ),a6 0 p/\ ∀c i,a6 c i->ID (c<f) (IA c f o λe2 e3=>AE i e2 (e3+c.toNat*74) λe4=>AL i Ja 184 λa1 e5=>ST e5 a1 0 e4 λn=>gN n l (m+1) λe6=>xr n a1 0 λe7=>nB n a1 2 λe8=>MU 316 (.map e6) (.agg ⟨e7⟩) (.agg ⟨e8⟩) n λb4=>a6 (i64.wrap (c+1)) b4/\c8 (i64.wrap (c+1)) b4<c8 c i) (K (aB 0) i))))):CF 412 ⟨(AC l m a b w)⟩ H K:=cE 0x1dd1215612399251128d4421561239925144c [[(62,sI)],[(12,sA),(13,sI)],[(9,sS),(29,sI)]] h
theorem Re(h : ID ((aZ .and .i64 (aZ .xor .i64 a (i64.wrap (a+b))) (aZ .xor .i64 b (i64.wrap (a+b))))<0) (K (LD 0 12) H) (K (LD (i64.wrap (a+b)) 0) H)):CF 407 ⟨(fX a b)⟩ H K:=cE 4572 [] h
theorem Rf(h : AL H lq 181 λb d1=>SJ 157 [.slice s l m] d1 λc d2=>C_u 160 [.pointer c] d2 λr1 d3=>C_u 160 [.pointer c] d3 λr2 d4=>C_u 160 [.pointer c] d4 λr3 d5=>AL d5 (afR 0 0 0) 649 λn d6=>ST d6 n 0 (afR r1 r2 r3) λd7=>E9 240 [.pointer c] d7 λr4 d8=>E9 240 [.pointer c] d8 λr5 d9=>CF 165 ⟨(ib c 16)⟩ d9 λe0 e1=>∃r6,e0=(.string r6)/\ E9 239 (ib c 65) e1 λr7 e2=>∃(z:oL) (c8:oM),z none 0 0 0 e2/\ ∀o i y p q,z o i y p q->ID (p<r7) (C_u 160 [.pointer c] q λe3 e4=>C_u 160 [.pointer c] e4 λe5 e6=>AL e6 (adH e3 e5) 651 λe7 e8=>AP #[650,650] 650 (fW o i y (some ⟨e7,0,none⟩) 1 1) e8 λa2 a3 a4 a5=>z a2 a3 a4 (i64.wrap (p+1)) a5/\c8 a2 a3 a4 (i64.wrap (p+1)) a5<c8 o i y p q) (E9 166 [.pointer c] q λa6 r=>IN (a6=0) (ST r b 0 lq λa7=>nB a7 b 0 λe9=>K (fk (.agg ⟨e9⟩) a6) a7) (aew r n 0 λc0 f0 f1=>∃(a0:eH) (c9:hZ),a0 0 r/\ ∀j e,a0 j e->ID (j<3) (∃b7,ne Tryz.prog (Instr.index 649 (.agg ⟨[.int .u64 c0,.int .u64 f0,.int .u64 f1]⟩) (aB j)) (.int .u64 b7)/\ ID (9223372036854775807<b7) (ST e b 0 lq λa8=>nB a8 b 0 λf2=>K (fk (.agg ⟨f2⟩) 10) a8) (a0 (i64.wrap (j+1)) e/\c9 (i64.wrap (j+1)) e<c9 j e)) ((IX 0 3)/\ TR e n (0+0) λf3=>(IX 1 3)/\ TR e n (0+1) λf4=>(IX 2 3)/\ TR e n (0+2) λf5=>AL e lq 181 λf f6=>ST f6 f 0 (tu (i64.wrap f3) 0 0 0 0 (i64.wrap f4) (i64.wrap f5) Z0) λf7=>ST f7 f 3 [aB r4] λf8=>ST f8 f 4 [aB r5] λf9=>cv Tryz.prog (convert 9 63 (.string r6)) f9 λg0 g1=>∃b8 b9 c1,g0=(.slice b8 b9 c1)/\ CF 425 ⟨[.slice b8 b9 c1]⟩ g1 λg2 g3=>∃c2 c3 Hm,g2=(mD (air c2 c3) Hm)/\ AL g3 (nA 0 0) 177 λa9 g4=>ST g4 a9 0 (nA c2 c3) λt=>IF (!Hm) (ST t b 0 lq λb0=>nB b0 b 0 λg5=>K (fk (.agg ⟨g5⟩) 10) b0) (tt t a9 0 λg6=>ST t f 1 g6 λg7=>∃(a1:eH) (d0:hZ),a1 0 g7/\ ∀a k,a1 a k->ID (a<i) (IA a i o λg8 g9=>∃c4 c5,bE k g8 (g9+a.toNat*2) (adH c4 c5)/\ AL k (adH 0 0) 651 λg i0=>ST i0 g 0 (adH c4 c5) λd=>(((decide (0<a))=true)->(IX 0 2))/\ ae9 ((decide (0<a))=true) d g (0+0) λu=>(((decide (0<a))=true)->(IX (i64.wrap (a-1)) i))/\∃c6 c7:Nat,(((decide (0<a))=true)->(o=some ⟨c6,c7,none⟩))/\ (((decide (0<a))=true)->(IX 0 2))/\ ae9 ((decide (0<a))=true) d c6 (c7+(i64.wrap (a-1)).toNat*2+0) λv=>((((decide (0<a))&&(decide (u<=v)))=false)->(IX 0 2))/\ ae9 (((decide (0<a))&&(decide (u<=v)))=false) d g (0+0) λi1=>IF (((decide (0<a))&&(decide (u<=v)))||(decide (65<=i1))) (ST d b 0 lq λb1=>nB b1 b 0 λi2=>K (fk (.agg ⟨i2⟩) 10) b1) ((IX 1 2)/\ TR d g (0+1) λw=>(((decide (w=0))=false)->(IX 1 2))/\ ae9 ((decide (w=0))=false) d g (0+1) λi3=>IF ((decide (w=0))||(decide (9223372036854775807<i3))) (ST d b 0 lq λb2=>nB b2 b 0 λi4=>K (fk (.agg ⟨i4⟩) 10) b2) ((IX 0 2)/\ TR d g (0+0) λb3=>(IX 1 2)/\ TR d g (0+1) λi5=>(IX b3 65)/\ ST d f (7+b3.toNat) [aB (i64.wrap i5)] λb4=>a1 (i64.wrap (a+1)) b4/\d0 (i64.wrap (a+1)) b4<d0 a k))) (nB k f 0 λi6=>Xz 233 [.agg ⟨i6⟩] k λr12 x=>IF (!r12) (ST x b 0 lq λb5=>nB b5 b 0 λi7=>K (fk (.agg ⟨i7⟩) 10) b5) (nB x f 0 λi9=>ST x b 0 i9 λb6=>nB b6 b 0 λk0=>K (fk (.agg ⟨k0⟩) 0) b6))))))):CF 392 ⟨[.slice s l m]⟩ H K:=cE 0x111111215612399254421b215612399251b4111d1215612399251dd44dc [[(87,sI)],[(53,sI)],[(9,sS),(35,sI)]] h
theorem Rg(h : AL H (afS 0) 457 λb k=>adY 85 [.slice s l m] k λe a d n f=>IN (n=0) (ST f b 0 (afS 0) λg=>AF g b 0 λo=>K (mD (.agg ⟨o⟩) false) g) (SJ 157 [.slice e a d] f λr1 p=>E9 239 (ib r1 255) p λr2 c=>HU 162 [.pointer r1] c λr3=>∃r4,(((!decide (r3=0))=false)->CQ 385 #[.pointer r1] c (aB r4))/\ IF ((!decide (r3=0))||(decide (262144<r4))) (ST c b 0 (afS 0) λi=>AF i b 0 λq=>K (mD (.agg ⟨q⟩) false) i) (HU 385 [.pointer r1] c λr5=>(BD (i64.wrap ((a:Int)-r5)) a d)/\ Hi 424 [(.slice (y_ e ((i64.wrap ((a:Int)-r5)).toNat) d 1) (a-((i64.wrap ((a:Int)-r5)).toNat)) (d-((i64.wrap ((a:Int)-r5)).toNat)))] c λr t u v=>ST v b 0 (ajR r2 r t u) λj=>AF j b 0 λw=>K (mD (.agg ⟨w⟩) true) j))):CF 386 ⟨[.slice s l m]⟩ H K:=cE 18682332 [] h
theorem Rh(h : AL H (nA 0 0) 177 λe n=>AL n (nA 0 0) 177 λc o=>∃(d:eH) (k:hZ),d 0 o/\ ∀b a,d b a->ID (b<l) (IA b l s λp q=>aO a p (q+b.toNat) λf=>TR a c 1 λr=>∃j r1,sG Tryz.prog 422 #[.int .u64 r,.int .u64 (u64.wrap f),.int .u64 0] (aav j r1)/\ aO a c 0 λt=>((0:Int)<=63)/\ ST a c 0 (nA (i64.wrap ((i64.wrap (t+(Int.fdiv f (2^(min (Int.toNat 63) (i64.bits))))))+(i64.wrap r1))) j) λg=>d (i64.wrap (b+1)) g/\k (i64.wrap (b+1)) g<k b a) (tt a c 0 λu=>ST a e 0 u λi=>tt i e 0 λv=>K (.agg ⟨v⟩) i)):CF 380 ⟨[.slice s l m]⟩ H K:=cE 0x11215612399251144c [[(10,sI)]] h
theorem Ri(h : AL H [PA l m] 161 λp b7=>AL b7 [aB a] 2 λb8 b9=>AL b9 [.slice none 0 0] 163 λf q=>bA q p 0 λc1=>C_f 80 [.pointer c1] q λr c2 b=>bK r X.calls=true/\ ∀c:Loop,c.state=.ready->c.pending=none->(∀(b5:Xa) (n:aC) (o:KE),(∃w x y z a0 a1 a2 a3 a4 a5,b5=(ak3 (aj6 w x) (tv y z a0 a1 a2 a3 a4 a5))/\ n[b.size+1]?=some (.loop c)/\ AL n (SC 0 (⟨#[]⟩:Fb)) 174 λg c3=>ST c3 g 0 (SC w x) λc4=>AL c4 lq 181 λs c5=>ST c5 s 0 (tu y z a0 a1 a2 a3 a4 a5) λt=>t[b.size+1]?=some (.loop c)/\ ∀d:aC,d=iD t (b.size+1) { c with state:=.busy }->aO d g 0 λc6=>aO d b8 0 λc7=>ID (c7<=c6) (d[b.size+1]?=some (.loop { c with state:=.busy })/\o (.bool false) (iD d (b.size+1) { c with state:=.done,pending:=some (.exit 0) })) (dN d f 0 λc8 c9 d0=>∃c0 a6,bE d g 0 (SC c0 a6)/\ ∃a7 a8 a9 b0 b1 b2 b3 b4,bE d s 0 (tu a7 a8 a9 b0 b1 b2 b3 b4)/\ AL d (xq c0 a6 a7 a8 a9 b0 b1 b2 b3 b4) 184 λd1 d2=>AP #[163,163] 163 (fW c8 c9 d0 (some ⟨d1,0,none⟩) 1 1) d2 λd3 d4 d5 d6=>ST d6 f 0 [.slice d3 d4 d5] λi=>bA i p 0 λk=>NN k (gN i (aV k) ((aS k)+1) λd7=>xr i g 0 λd8=>cv Tryz.prog (Builtin.delete_ #[316,174] 0 #[.map d7,.agg ⟨d8⟩]) i λe5 u=>u[b.size+1]?=some (.loop { c with state:=.busy })/\o (.bool true) (iD u (b.size+1) c))))->fu Tryz.prog (b.size+1) b5 n o)->CF r ⟨(.func (.yield (b.size+1)) #[] #[])::c2⟩ ((b.push (.deferred (some []))).push (.loop c)) λe6 v=>∃(b6:LoopState) (j:Option Code),b6≠.busy/\v[b.size+1]?=some (.loop { c with state:=b6,pending:=j })/\ ∀e:aC,e=iD v (b.size+1) { c with state:=.exhausted,pending:=j }->((j=none/\ dN e f 0 λd9 e0 e1=>e[b.size]?=some (.deferred (some []))/\ K (.slice d9 e0 e1) (e.setIfInBounds b.size (.deferred none)))\/ j=(some (.exit 0))/\ dN e f 0 λe2 e3 e4=>e[b.size]?=some (.deferred (some []))/\ K (.slice e2 e3 e4) (e.setIfInBounds b.size (.deferred none)))):CF 370 ⟨(lJ l m a)⟩ H K:=cFE (.r (.r (.seq (.r (.E8 (.FT [.agg [.int .i64, .str],.agg [.int .i64, .int .i64, .int .u64, .int .i64, .int .i64, .int .i64, .int .i64, .vec .i64 65]] [none,(some (.exit 0))] (.r .CL) (.E8 (.seq (.r (.cond .no .no)) (.r .CL)))))) (.r .no)))) h
def AO.y1(b b1 ahf ahe aho ahn:Nat)(Hg:aC)(R:Loop)(vs:Xa)(HV:aC)(K_:KE):Prop:=
 ∃y y0 y1 y2 y3,vs=(ahP y (ad1 y0 y1 y2 y3))/\
 HV[Hg.size+1]?=some (.loop R)/\
 HV[Hg.size+1]?=some (.loop R)/\
 ∀H_6:aC,H_6=iD HV (Hg.size+1) { R with state:=.busy }->
 bA H_6 b 0 λv7=>
 E9 362 (ajQ v7 y (.func (.func 418) #[] #[(PA b1 0),(PA b 0),(PA aho ahn),(PA ahf ahe)])) H_6 λr1 P_=>
 P_[Hg.size+1]?=some (.loop { R with state:=.busy })/\K_ (.bool true) (iD P_ (Hg.size+1) R)
theorem Rk(h : AL H [PA l m] 160 λc b7=>AL b7 [aB a] 2 λd e=>aO e d 0 λb8=>Q_b 390 [aB b8] e λn=>lI ((!n)=false) e d 0 λb9=>∃t,(((!n)=false)->aM e c 0=some (.pointer t))/\ (((!n)=false)->isA t)/\ lI ((!n)=false) e (aV t) ((aS t)+1) λc0=>IF ((!n)||(decide (b9<c0))) (K (aB 11) e) (bA e c 0 λu=>aO e d 0 λc1=>NN u (ST e (aV u) ((aS u)+1) [aB c1] λo=>∀a0:ahS,(∀x y b1 b2 z,(bA z c 0 λc2=>C_f 417 [.pointer c2] z λa2 c3 f=>bK a2 X.calls=true/\ ∀j:Loop,j.state=.ready->j.pending=none->(∀(b3:Xa) (b4:aC) (b5:KE),AO.y1 c d x y b1 b2 f j b3 b4 b5->fu Tryz.prog (f.size+1) b3 b4 b5)->CF a2 ⟨(.func (.yield (f.size+1)) #[] #[])::c3⟩ ((f.push (.deferred (some []))).push (.loop j)) λc8 a3=>∃(b6:LoopState) (a1:Option Code),b6≠.busy/\a3[f.size+1]?=some (.loop { j with state:=b6,pending:=a1 })/\ ∀k:aC,k=iD a3 (f.size+1) { j with state:=.exhausted,pending:=a1 }->a1=none/\ bA k c 0 λv=>bA k c 0 λw=>NN w (aO k (aV w) ((aS w)+2) λa4=>aO k x y λa5=>NN v (ST k (aV v) ((aS v)+2) [aB (if a5>a4 then a5 else a4)] λa6=>a6[f.size]?=some (.deferred (some []))/\ K (aB 0) (a6.setIfInBounds f.size (.deferred none)))))->a0 x y b1 b2 z)->aO o d 0 λg=>bA o c 0 λb=>NN b (aO o (aV b) (aS b) λi=>(AL o [aB 0] 2 λa7 p=>aM p (aV b) (aS b)=some (aB i)/\ aM p c 0=some (.pointer b)/\ aM p d 0=some (aB g)/\ AL p [.bool false] 4 λa8 q=>aM q (aV b) (aS b)=some (aB i)/\ aM q c 0=some (.pointer b)/\ aM q d 0=some (aB g)/\ ST q a7 0 [aB (i64.wrap (g-i))] λc4=>ST c4 a8 0 [.bool false] λc5=>a0 a7 0 a8 0 c5)/\ (AL o [.bool false] 4 λa9 r=>aM r (aV b) (aS b)=some (aB i)/\ aM r c 0=some (.pointer b)/\ aM r d 0=some (aB g)/\ AL r [aB 0] 2 λb0 s=>aM s (aV b) (aS b)=some (aB i)/\ aM s c 0=some (.pointer b)/\ aM s d 0=some (aB g)/\ ST s b0 0 [aB (i64.wrap (g-i))] λc6=>ST c6 a9 0 [.bool false] λc7=>a0 b0 0 a9 0 c7))))):CF 369 ⟨(lJ l m a)⟩ H K:=cFE (.r (.seq (.r (.cond (.r .no) .no)) (.r (.seq (.TQ [(5,sA),(6,sA)]) (.seq (.r (.E8 (.FT [sI,.agg [.int .i64, .bool, .bool, .bool]] [none] .CL (.E8 .CL)))) (.r (.r .no))))))) h
theorem Rl(h : Hi 409 [.slice s l m] H λd c i j=>∃(e:eH) (g:hZ),e 0 j/\ ∀a b,e a b->ID (a<c) (IA a c d λk n=>dN b k (n+a.toNat*4+2+1) λo p q=>Hi 104 [.slice o p q] b λr t u v=>IA a c d λw x=>ST v w (x+a.toNat*4+2+1) [.slice r t u] λf=>e (i64.wrap (a+1)) f/\g (i64.wrap (a+1)) f<g a b) (K (.slice d c i) b)):CF 365 ⟨[.slice s l m]⟩ H K:=cE 0x1121561239925144c [[(8,sI)]] h
theorem Rm(h : IF ((decide (a<0))||(decide (2199023255552<a))) (K (adu n) H) (∃(z:rA) (b3:uR),z 0 0 H/\ ∀d b f,z d b f->ID (b<n) (IA b n s λb5 b6=>tw f b5 (b6+b.toNat*4) λb7=>AL f xt 69 λa1 b8=>ST b8 a1 0 b7 λr=>gN r l (m+2) λb9=>Jd 426 (.map b9) (aB (i64.wrap (a+b))) r λc0 c1=>AL r xt 69 λc2 c3=>ST c3 c2 0 c0 λc=>aO c l m λc4=>∀x:eH,(∀v w,(z v (i64.wrap (b+1)) w/\b3 v (i64.wrap (b+1)) w<b3 d b f)->x v w)->IF ((decide ((i64.wrap (a+b))<c4))||c1) (x d c) (aO c l m λc5=>aO c l (m+1) λc6=>∀y:eH,(∀b1 b2,(x b1 b2)->y b1 b2)->ID ((i64.wrap (c5+c6))<=(i64.wrap (a+b))) (y (i64.wrap (d+1)) c) (gN c l (m+2) λc7=>tw c a1 0 λc8=>MU 426 (.map c7) (aB (i64.wrap (a+b))) (.agg ⟨c8⟩) c λc9=>y d c9))) (∃(a0:oL) (b4:oM),a0 none 0 0 d f/\ ∀k p q g e,a0 k p q g e->gN e l (m+2) λt=>aO e l m λu=>Jd 426 (.map t) (aB u) e λa2 a3=>AL e xt 69 λa4 i=>dt Tryz.prog (Instr.lookup 426 (.map t) (aB u) true) i (mD (.agg ⟨a2⟩) a3)/\ aM i l m=some (aB u)/\ aM i l (m+2)=some (.map t)/\ ST i a4 0 a2 λj=>IF (!a3) (K (adv k p q g) j) (gN j l (m+2) λd0=>aO j l m λd1=>cv Tryz.prog (Builtin.delete_ #[426,2] 0 #[.map d0,aB d1]) j λd6 a5=>tw a5 a4 0 λd2=>AL a5 d2 69 λd3 d4=>AP #[97,97] 97 (fW k p q (some ⟨d3,0,none⟩) 1 1) d4 λa6 a7 a8 a9=>aO a9 l m λd5=>ST a9 l m [aB (i64.wrap (d5+1))] λb0=>a0 a6 a7 a8 g b0/\b4 a6 a7 a8 g b0<b4 k p q g e)))):CF 364 ⟨(ajU l m a s n o)⟩ H K:=cE 0x1d215612399251115179174445651d114 [[(6,sS),(7,sI)],[(7,sI)],[(7,sI)],[(7,sI),(25,sI)]] h
def AQ.r1(K:KE)(b1:Nat)(r3 v2 hi:Int)(P_:aC):Prop:=
 ID ((if 4611686018427387903<hi then 4611686018427387903 else hi)<(if 0>(i64.wrap (v2+r3)) then 0 else (i64.wrap (v2+r3)))) (
 ST P_ b1 0 (fX 0 0) λHt=>
 tx Ht b1 0 λl2=>
 K (fk (.agg ⟨l2⟩) 13) Ht) (
 ST P_ b1 0 (fX (if 0>(i64.wrap (v2+r3)) then 0 else (i64.wrap (v2+r3))) (if 4611686018427387903<hi then 4611686018427387903 else hi)) λPV=>
 tx PV b1 0 λl3=>
 K (fk (.agg ⟨l3⟩) 0) PV)
theorem Rn(h : AL H (afT a b c d) 279 λi t=>AL t (fX 0 0) 54 λj m=>rB m i 0 λu=>Xz 351 [.agg ⟨u⟩] m λv g=>IF (!v) (ST g j 0 (fX 0 0) λn=>tx n j 0 λw=>K (fk (.agg ⟨w⟩) 10) n) (Q_b 403 [aB e] g λr1=>∃r2,(((!r1)=false)->CQ 384 #[aB f] g (.bool r2))/\ IF ((!r1)||(!r2)) (ST g j 0 (fX 0 0) λo=>tx o j 0 λx=>K (fk (.agg ⟨x⟩) 11) o) (aO g i 1 λy=>xu 405 (fX (i64.wrap (e-y)) f) g λr3 r4 p=>aO p i 2 λz=>xu 406 (fX (i64.wrap (e-z)) f) p λr5 r6 k=>aO k i 0 λa0=>aO k i 3 λa1=>∃r7 q,CQ 407 #[aB a1,aB r5] k (LD r7 q)/\ ∀l:eH,(∀r s,AQ.r1 K j r3 a0 r s->l r s)->IN (q=0) (l 4611686018427387903 k) (l r7 k)))):CF 359 ⟨(adG (aj8 a b c d) e f)⟩ H K:=cE 0x1dd1111217491dc [[(13,sI)]] h
theorem Rq(h : dN H l (m+1) λa3 c a4=>(((decide (0<(c:Int)))=true)->True)/\ aaq ((decide (0<(c:Int)))=true) H l (m+1) λi j a5=>(((decide (0<(c:Int)))=true)->(IX (i64.wrap ((c:Int)-1)) j))/\∃f g:Nat,(((decide (0<(c:Int)))=true)->(i=some ⟨f,g,none⟩))/\ lI ((decide (0<(c:Int)))=true) H f (g+(i64.wrap ((c:Int)-1)).toNat*2) λk=>IF ((decide (0<(c:Int)))&&(decide (k=a))) (dN H l (m+1) λd e a6=>IA (i64.wrap ((c:Int)-1)) e d λn o=>aO H n (o+(i64.wrap ((c:Int)-1)).toNat*2+1) λp=>IA (i64.wrap ((c:Int)-1)) e d λq r=>ST H q (r+(i64.wrap ((c:Int)-1)).toNat*2+1) [aB (i64.wrap (p+b))] λs=>K (.tuple #[]) s) (dN H l (m+1) λt u v=>AL H (fX a b) 288 λw x=>AP #[284,284] 284 (fW t u v (some ⟨w,0,none⟩) 1 1) x λy z a0 a1=>ST a1 l (m+1) [.slice y z a0] λa2=>K (.tuple #[]) a2)):CF 349 ⟨(adM l m a b)⟩ H K:=cE 8628 [] h
def tA.code(c0b c0o c1b c1o:Nat)(rv:Value)(H:aC)(K:aC->Prop):Prop:=
 E9 319 [rv] H λr H_=>
 ST H_ c0b c0o [(aB r)] λHu=>
 aO Hu c0b c0o λv=>
 ∀Jn:dL,(∀Xy,(K Xy)->Jn Xy)->
 IN (v=0) (
 ST Hu c1b c1o Je λSM=>
 Jn SM) (
 Jn Hu)
theorem tA.Xh{a d b c e H K:_}{u f:FrameMode}(i:(u=.returning/\e=.nilIface/\f=.returning)\/(u=br e false/\f=br e true))(k:tA.code a d b c e H K):cH Tryz.prog 331 (dz a d b c) u H λh j=>h=f/\K j:=Ai (X:=X) (an:=(.seq .CL (.seq .CL (.Hp [] .CL .no)))) X_P tp tq Tryz.func331 i kf k
def nC.l1(sb so:Nat)(agent:Int)(K KP:KE)(b b1 FD FC:Nat)(r5 r17:KQ)(r19:Int)(Inv1:Int->aC->Prop)(mu1:Int->aC->Nat)(t114:Int)(HA:aC):Prop:=
 ID (t114<r19) (
 fm HA b 0 λc14=>
 MA 389 [(.agg #[(.pointer c14)]),.pointer r17] HA (λaay=>
 Inv1 (i64.wrap (t114+1)) aay/\mu1 (i64.wrap (t114+1)) aay<mu1 t114 HA) (λako ah6=>
 KP ako ah6)) (
 gN HA sb (so+18) λv4=>
 MU 162 (.map v4) (aB agent) (.pointer r5) HA λafW=>
 Jf afW FD FC λl1=>
 ST afW b1 0 l1 λHN=>
 Jf HN b1 0 λl=>
 K (.agg ⟨l⟩) HN)
def nC.r3(sb so:Nat)(agent:Int)(K KP:KE)(b b1 FD FC:Nat)(r5:KQ)(HC:aC):Prop:=
 fm HC b 0 λc5=>
 fm HC b 0 λc6=>
 P_u 329 [(.agg #[(.pointer c5)])] HC (λr8 Xs=>
 bE Xs b 0 [(.pointer c6)]/\
 PR 323 [(.agg #[(.pointer c6)])] Xs (λr9 af2=>
 fm af2 b 0 λc7=>
 PR 322 (MK (.agg #[(.pointer c7)]) 8) af2 (λr10 aie=>
 ∃(Inv:oL) (mu:oM),Inv none 0 0 0 aie/\
 ∀GP GK GO t71 FK,Inv GP GK GO t71 FK->
 ID (t71<r10) (
 fm FK b 0 λc8=>
 fm FK b 0 λc9=>
 fm FK b 0 λc10=>
 fm FK b 0 λc11=>
 PR 323 [(.agg #[(.pointer c8)])] FK (λHm MP=>
 bE MP b 0 [(.pointer c11)]/\
 bE MP b 0 [(.pointer c10)]/\
 bE MP b 0 [(.pointer c9)]/\
 PR 323 [(.agg #[(.pointer c9)])] MP (λr12 YB=>
 bE YB b 0 [(.pointer c11)]/\
 bE YB b 0 [(.pointer c10)]/\
 PR 323 [(.agg #[(.pointer c10)])] YB (λr13 aaz=>
 bE aaz b 0 [(.pointer c11)]/\
 PR 323 [(.agg #[(.pointer c11)])] aaz (λr14 aid=>
 AL aid (afT Hm r12 r13 r14) 279 λb2 aic=>
 AP #[311,311] 311 (fW GP GK GO (some ⟨b2,0,none⟩) 1 1) aic λsa sn sc af0=>
 Inv sa sn sc (i64.wrap (t71+1)) af0/\mu sa sn sc (i64.wrap (t71+1)) af0<mu GP GK GO t71 FK) (λaeD af1=>
 KP aeD af1)) (λaeE adP=>
 KP aeE adP)) (λaeF aaA=>
 KP aeF aaA)) (λpn9 aaB=>
 KP pn9 aaB)) (
 NN r5 (
 bA FK (aV r5) (aS r5) λv2=>
 E9 388 [.pointer v2,.bool (decide (r8=1)),aB r9,.slice GP GK GO] FK λr15 aib=>
 MA 325 [(aB r15)] aib (λHB=>
 fm HB b 0 λc12=>
 aO HB sb (so+8) λv3=>
 PR 323 [(.agg #[(.pointer c12)])] HB (λr16 afZ=>
 aM afZ sb (so+8)=some (aB v3)/\
 xv 315 (fX r16 v3) afZ λr17 r18 ah9=>
 MA 325 [(aB r18)] ah9 (λah8=>
 NN r5 (
 ST ah8 (aV r5) ((aS r5)+1) [(.pointer r17)] λafY=>
 fm afY b 0 λc13=>
 PR 322 (MK (.agg #[(.pointer c13)]) 256) afY (λr19 afX=>
 ∃(Inv1:eH) (mu1:hZ),Inv1 0 afX/\
 ∀t114 HA,Inv1 t114 HA->nC.l1 sb so agent K KP b b1 FD FC r5 r17 r19 Inv1 mu1 t114 HA) (λakp ah7=>
 KP akp ah7))) (λakq YA=>
 KP akq YA)) (λaeB ah_=>
 KP aeB ah_)) (λaeC aia=>
 KP aeC aia)))) (λpn8 MR=>
 KP pn8 MR)) (λpn7 aif=>
 KP pn7 aif)) (λpn6 af3=>
 KP pn6 af3)
def nC.r4(sb so:Nat)(agent:Int)(K KP:KE)(b b1:Nat)(r3:Int)(FD FC:Nat)(SF:aC):Prop:=
 fm SF b 0 λc3=>
 P_u 329 [(.agg #[(.pointer c3)])] SF (λr4 M_=>
 ST M_ FD (FC+1) [(.bool (!decide ((aZ .and .u64 r4 1)=0)))] λaaF=>
 ST aaF FD (FC+2) [(.bool (!decide ((aZ .and .u64 r4 2)=0)))] λaaE=>
 ST aaE FD (FC+3) [(.bool (!decide ((aZ .and .u64 r4 4)=0)))] λaii=>
 SJ 356 [(PA sb so)] aii λr5 af4=>
 fm af4 b 0 λc4=>
 PR 321 [(.agg #[(.pointer c4)])] af4 (λr6 aaD=>
 NN r5 (
 ST aaD (aV r5) ((aS r5)+2) [(aB r6)] λaaC=>
 NN r5 (
 aO aaC (aV r5) ((aS r5)+2) λv1=>
 Q_b 350 (kC v1 (-1) 4611686018427387903) aaC λr7=>
 ∀Xr:dL,(∀HC,nC.r3 sb so agent K KP b b1 FD FC r5 HC->Xr HC)->
 IF (!r7) (
 KP (.iface 58 (aB 10)) aaC) (
 Xr aaC)))) (λpn5 aih=>
 KP pn5 aih)) (λpn4 aaG=>
 KP pn4 aaG)
def tB.code(c0b c0o c1b c1o:Nat)(rv:Value)(H:aC)(K:aC->Prop):Prop:=
 E9 319 [rv] H λr H_=>
 ∀Jn:dL,(∀Hu,(K Hu)->Jn Hu)->
 IN (r=0) (
 ST H_ c0b c0o [(.pointer none)] λXy=>
 ST Xy c1b c1o [(aB 10)] λSM=>
 Jn SM) (
 Jn H_)
theorem tB.Xh{a d b c e H K:_}{u f:FrameMode}(i:(u=.returning/\e=.nilIface/\f=.returning)\/(u=br e false/\f=br e true))(k:tB.code a d b c e H K):cH Tryz.prog 318 (dz a d b c) u H λh j=>h=f/\K j:=Ai (X:=X) (an:=(.seq .CL (.Hp [] .CL .no))) X_P tp tq Tryz.func318 i kf k
theorem Rr(h : ID (a<0) (K (aB 0) H) (ID (a=0) (K (aB 1) H) (HU 265 [.int .u64 (u64.wrap a)] H λb=>K (aB (i64.wrap ((i64.wrap (2+b))-1))) H))):CF 302 ⟨[aB a]⟩ H K:=cE 307313852 [] h
theorem Rs(h : AL H (cq .i64 z 65 0) 179 λd e=>AL e (nA 0 0) 177 λa f=>(BD 0 65 65)/\ CF 380 ⟨[.slice (y_ (some ⟨d,0,none⟩) 0 65 1) 65 65]⟩ f λg i=>∃c r1,g=(air c r1)/\ ST i a 0 (nA c r1) λb=>tt b a 0 λj=>K (.agg ⟨j⟩) b):CF 300 ⟨[(agb z)]⟩ H K:=cE 28 [] h
theorem Rt(h : ST H l (m+9) [aB a] λo=>bA o l (m+16) λb1=>E9 369 (ib b1 a) o λc8 c=>bA c l (m+17) λp=>Jg c l (m+12) λb2=>bA c l (m+16) λb3=>HU 76 [.pointer b3] c λr1=>E9 371 (MK (.agg ⟨b2⟩) r1) c λr2 q=>aM q l (m+17)=some (.pointer p)/\ Hi 370 (ib p r2) q λb4 r c9 b5=>∃(n:oL) (b0:oM),n none 0 0 0 b5/\ ∀e f g b d,n e f g b d->ID (b<r) (IA b r b4 λb6 b7=>AE d b6 (b7+b.toNat*74) λb8=>AL d Ja 184 λi b9=>ST b9 i 0 b8 λj=>HU 352 [PA l m] j λr3=>∃a0 a1 a2 a3 a4 a5 a6 a7 a8 a9,bE j i 0 (xq a0 a1 a2 a3 a4 a5 a6 a7 a8 a9)/\ AL j (uS 4 0 0 0 0 r3 0 0 0 0 0 0 0 a0 a1 a2 a3 a4 a5 a6 a7 a8 a9) 523 λc0 c1=>AP #[405,405] 405 (fW e f g (some ⟨c0,0,none⟩) 1 1) c1 λs t u k=>dN k l (m+19) λv w x=>AE k i 0 λc2=>AL k c2 184 λc3 y=>aM y l (m+19)=some (.slice v w x)/\ AP #[163,163] 163 (fW v w x (some ⟨c3,0,none⟩) 1 1) y λc4 c5 c6 c7=>ST c7 l (m+19) [.slice c4 c5 c6] λz=>n s t u (i64.wrap (b+1)) z/\b0 s t u (i64.wrap (b+1)) z<b0 e f g b d) (K (.slice e f g) d)):CF 291 ⟨(lJ l m a)⟩ H K:=cE 0x1111215612399251144c [[(5,sS),(34,sI)]] h
theorem Ru(h : AL H (AG a b c d e f g i j k a0 s n o) 281 λr z=>aO z r 6 λa3=>ST z l (m+9) [aB a3] λp=>gN p l (m+18) λa4=>aO p r 1 λa5=>adN 162 (.map a4) (aB a5) p λq=>aO p r 4 λt=>NN q (bA p (aV q) ((aS q)+1) λa6=>HU 144 [.pointer a6] p λu=>lI ((!decide (t=u))=false) p r 5 λv=>(((!decide (t=u))=false)->isA q)/\ lI ((!decide (t=u))=false) p (aV q) ((aS q)+2) λw=>((((!decide (t=u))||(decide (v<w)))=false)->isA q)/\ ∃a2,((((!decide (t=u))||(decide (v<w)))=false)->aM p (aV q) (aS q)=some (.pointer a2))/\ ∃Hm,((((!decide (t=u))||(decide (v<w)))=false)->CQ 139 #[.pointer a2] p (.bool Hm))/\ IF (((!decide (t=u))||(decide (v<w)))||Hm) (K (.tuple #[]) p) (aO p r 1 λa7=>aO p r 5 λa8=>AH 367 [PA l m,aB a7,.pointer q,aB a8] p λa9 r12 b0=>AL b0 (fX 0 0) 54 λa1 b1=>ST b1 a1 0 a9 λy=>IN (r12=0) (K (.tuple #[]) y) (aO y r 5 λb2=>NN q (ST y (aV q) ((aS q)+2) [aB b2] λx=>bA x l (m+16) λb3=>aO x r 1 λb4=>aO x a1 0 λb5=>E9 368 (adI b3 b4 b5) x λb7 b6=>K (.tuple #[]) b6))))):CF 290 ⟨(SD l m (AI a b c d e f g i j k a0 s n o))⟩ H K:=cE 0x1112139912139914 [] h
theorem Rv(h : AL H (AG a b c d e f g i j k a0 s n o) 281 λq a4=>aO a4 q 6 λc8=>ST a4 l (m+9) [aB c8] λr=>gN r l (m+18) λc9=>aO r q 1 λd0=>adN 162 (.map c9) (aB d0) r λp=>NN p (bA r (aV p) ((aS p)+1) λd1=>HU 144 [.pointer d1] r λd2=>NN p (bA r (aV p) ((aS p)+1) λa5=>aO r q 4 λa6=>dN r q 11 λd3 d4 d5=>Hi 365 [.slice d3 d4 d5] r λd6 d7 d8 z=>aM z q 4=some (aB a6)/\ aM z (aV p) ((aS p)+1)=some (.pointer a5)/\ adY 364 (agE a5 a6 d6 d7 d8) z λd9 a7 g6 Hm e0=>∃(a3:oL) (c7:oM),a3 none 0 0 0 e0/\ ∀w x y u t,a3 w x y u t->ID (u<a7) (IA u a7 d9 λe1 e2=>tw t e1 (e2+u.toNat*4) λe3=>AL t xt 69 λa8 e4=>ST e4 a8 0 e3 λa1=>aO a1 q 1 λe5=>tw a1 a8 0 λe6=>CF 366 ⟨[PA l m,aB e5,.pointer p,.agg ⟨e6⟩]⟩ a1 λe7 e8=>∃b6 b7 b8 b9,e7=(akZ (ait b6 b7) (ait b8 b9))/\ AL e8 (fX 0 0) 52 λa9 e9=>AL e9 (fX 0 0) 54 λb0 f0=>ST f0 a9 0 (fX b6 b7) λf1=>ST f1 b0 0 (fX b8 b9) λa2=>aO a2 q 1 λf2=>aO a2 q 2 λf3=>AL a2 (kC 0 0 0) 50 λb1 f4=>ST f4 b1 0 (kC f2 f3 (i64.wrap (d2+u))) λv=>∃c0 c1 c2,bE v b1 0 (kC c0 c1 c2)/\ ∃c3 c4,bE v a9 0 (fX c3 c4)/\ ∃c5 c6,bE v b0 0 (fX c5 c6)/\ AL v (uS 3 0 0 0 0 0 c0 c1 c2 c3 c4 c5 c6 0 (⟨#[]⟩:Fb) 0 0 0 0 0 0 0 Z0) 523 λf5 f6=>AP #[405,405] 405 (fW w x y (some ⟨f5,0,none⟩) 1 1) f6 λb2 b3 b4 b5=>a3 b2 b3 b4 (i64.wrap (u+1)) b5/\c7 b2 b3 b4 (i64.wrap (u+1)) b5<c7 w x y u t) (aO t q 1 λf7=>aO t q 2 λf8=>NN p (bA t (aV p) ((aS p)+1) λf9=>HU 144 [.pointer f9] t λr12=>AL t (uS 2 f7 f8 0 r12 0 0 0 0 0 0 0 0 0 (⟨#[]⟩:Fb) 0 0 0 0 0 0 0 Z0) 523 λg0 g1=>AP #[405,405] 405 (fW w x y (some ⟨g0,0,none⟩) 1 1) g1 λg2 g3 g4 g5=>K (.slice g2 g3 g4) g5))))):CF 289 ⟨(SD l m (AI a b c d e f g i j k a0 s n o))⟩ H K:=cE 0x1111112156123992511144c [[(9,sS),(47,sI)]] h
def AR.r7(cb co:Nat)(K:KE)(b:Nat)(HV:aC):Prop:=
 dN HV cb (co+4) λva2 vn2 vc2=>
 cv Tryz.prog (Instr.makeSlice 586 (aB 0) (aB vn2)) HV λu1 H_6=>
 ∃sa1 sn1 sc1,u1=(.slice sa1 sn1 sc1)/\
 dN H_6 cb (co+4) λva3 vn3 vc3=>
 ∃(Inv:oL) (mu:oM),Inv sa1 sn1 sc1 0 H_6/\
 ∀Xe HI YU t48 P_,Inv Xe HI YU t48 P_->
 ID (t48<vn3) (
 IA t48 vn3 va3 λb2 o=>
 rB P_ b2 (o+t48.toNat*4) λl4=>
 AL P_ agy 279 λb3 Ht=>
 ST Ht b3 0 l4 λPV=>
 ∀Xr:AD,(∀gb go e_ NA,(∀ZF:dL,(∀SF,(tx SF gb go λl=>
 AL SF l 54 λb4 M_=>
 AP #[586,586] 586 (fW Xe HI YU (some ⟨b4,0,none⟩) 1 1) M_ λsa2 sn2 sc2 aaG=>
 Inv sa2 sn2 sc2 (i64.wrap (t48+1)) aaG/\mu sa2 sn2 sc2 (i64.wrap (t48+1)) aaG<mu Xe HI YU t48 P_)->ZF SF)->
 IN (e_=0) (
 ST NA gb go (fX 1 0) λaaF=>
 ZF aaF) (
 ZF NA))->Xr gb go e_ NA)->
 rB PV b3 0 λl3=>
 aO PV b 2 λv=>
 aO PV cb co λv1=>
 (AH 359 (adG (.agg ⟨l3⟩) v v1) PV λl1 r2 aaE=>
 AL aaE (fX 0 0) 54 λb5 aii=>
 ST aii b5 0 l1 λaf4=>
 Xr b5 0 r2 af4)/\
 (AL PV (fX 0 0) 54 λb6 aaD=>
 aM aaD cb co=some (aB v1)/\
 aM aaD b 2=some (aB v)/\
 bE aaD b3 0 l3/\
 AH 359 (adG (.agg ⟨l3⟩) v v1) aaD λl2 r3 aih=>
 ST aih b6 0 l2 λaaC=>
 Xr b6 0 r3 aaC)) (
 Xz 360 [(.slice Xe HI YU)] P_ λr4 HC=>
 IF r4 (
 aO HC cb (co+1+2) λv2=>
 ∀Jn3:dL,(∀Xs,(aO Xs cb (co+1+2) λv3=>
 aO Xs cb (co+1) λv4=>
 ∀Jn4:dL,(∀af3,(K (aB 0) af3)->Jn4 af3)->
 ID (v4<=v3) (
 ST Xs cb (co+1+1) [(.bool false)] λaf2=>
 Jn4 af2) (
 Jn4 Xs))->Jn3 Xs)->
 ID (v2<9223372036854775807) (
 aO HC cb (co+1+2) λv5=>
 ST HC cb (co+1+2) [(aB (i64.wrap (v5+1)))] λaif=>
 Jn3 aif) (
 Jn3 HC)) (
 ST HC cb (co+1+1) [(.bool true)] λaie=>
 ST aie cb (co+1+2) [(aB 0)] λMR=>
 ST MR cb (co+4) [(.slice none 0 0)] λFK=>
 IA (i64.wrap ((HI:Int)-1)) HI Xe λb7 o1=>
 tx FK b7 (o1+(i64.wrap ((HI:Int)-1)).toNat*2) λl6=>
 Xz 361 [(.agg ⟨l6⟩)] FK λr5 MP=>
 ∀Jn5:dL,(∀aaB,(K (aB 21) aaB)->Jn5 aaB)->
 IF r5 (
 rB MP b 0 λl5=>
 AL MP l5 279 λb8 YB=>
 ST YB cb (co+4) [(.slice (some ⟨b8,0,none⟩) 1 1)] λaaA=>
 Jn5 aaA) (
 Jn5 MP)))
theorem Rw(h : AL H (afT a b c d) 279 λg j=>rB j g 0 λr=>Xz 351 [.agg ⟨r⟩] j λs e=>IF (!s) (K (aB 10) e) (dN e l (m+4) λk n o=>rB e g 0 λt=>AL e t 279 λu p=>aM p l (m+4)=some (.slice k n o)/\ AP #[311,311] 311 (fW k n o (some ⟨u,0,none⟩) 1 1) p λv w x y=>ST y l (m+4) [.slice v w x] λf=>dN f l (m+4) λa8 z a9=>∀i:dL,(∀q,AR.r7 l m K g q->i q)->ID (8<(z:Int)) (dN f l (m+4) λa0 a1 a2=>Hi 358 [.slice a0 a1 a2,aB 0,aB 1] f λa3 a4 a5 a6=>ST a6 l (m+4) [.slice a3 a4 a5] λa7=>i a7) (i f))):CF 287 ⟨(SD l m (aj8 a b c d))⟩ H K:=cE 0x1d12174912156123992512821749442132174921749c9121749c [[],[],[],[],[(8,sA),(9,sI)],[(5,sS),(48,sI)],[]] h
def AS.r2(sb so b:Nat)(ZF:(KQ)->Nat->Nat->aC->Prop)(ahc:KQ)(aha ahb:Nat)(P_:aC):Prop:=
 gN P_ sb (so+18) λv6=>
 aO P_ b 1 λv7=>
 SJ 356 [(PA sb so)] P_ λr Ht=>
 aM Ht b 1=some (aB v7)/\
 aM Ht sb (so+18)=some (.map v6)/\
 MU 162 (.map v6) (aB v7) (.pointer r) Ht λPV=>
 bA PV sb (so+16) λv8=>
 aO PV b 1 λv9=>
 aO PV b 6 λv10=>
 E9 357 (adI v8 v9 v10) PV λHm NA=>
 ZF ahc aha ahb NA
theorem Rz(h : AL H (AG a b c d e f g i j k a0 s n o) 281 λp x=>∀b4:ahT,(∀c8 c9 t,(∀b5:adO,(∀b1 b2 d0 b3 z,(IN (b3=0) (K (adu b3) z) (aO z p 6 λd9=>ST z l (m+9) [aB d9] λr=>∀b6:Jh,(∀d1 d2 d3 w,(aO w p 1 λe0=>aO w b1 (b2+1) λe1=>aO w b1 b2 λe2=>AL w (uS 1 e0 e2 e1 0 0 0 0 0 0 0 0 0 0 (⟨#[]⟩:Fb) 0 0 0 0 0 0 0 Z0) 523 λe3 e4=>AP #[405,405] 405 (fW d1 d2 d3 (some ⟨e3,0,none⟩) 1 1) e4 λe5 e6 e7 e8=>K (adv e5 e6 e7 0) e8)->b6 d1 d2 d3 w)->IF d0 (gN r l (m+18) λe9=>aO r p 1 λf0=>adN 162 (.map e9) (aB f0) r λy=>∀b7:Jh,(∀d4 d5 d6 d7,AS.r2 l m p b6 d4 d5 d6 d7->b7 d4 d5 d6 d7)->IF (!y.isNone) (NN y (bA r (aV y) ((aS y)+1) λf1=>Hi 141 [.pointer f1] r λf2 b9 k3 f3=>∃(b8:oL) (d8:oM),b8 none 0 0 0 f3/\ ∀a1 a2 a3 u q,b8 a1 a2 a3 u q->ID (u<b9) (IA u b9 f2 λf4 f5=>aO q f4 (f5+u.toNat) λf6=>aO q p 1 λf7=>aO q c8 c9 λf8=>AL q (uS 3 0 0 0 0 0 f7 f8 f6 5 0 0 0 0 (⟨#[]⟩:Fb) 0 0 0 0 0 0 0 Z0) 523 λf9 g0=>AP #[405,405] 405 (fW a1 a2 a3 (some ⟨f9,0,none⟩) 1 1) g0 λc0 c1 c2 c3=>b8 c0 c1 c2 (i64.wrap (u+1)) c3/\d8 c0 c1 c2 (i64.wrap (u+1)) c3<d8 a1 a2 a3 u q) (bA q l (m+16) λg1=>aO q p 1 λg2=>E9 355 (ib g1 g2) q λr12 g3=>b7 a1 a2 a3 g3))) (b7 none 0 0 r)) (b6 none 0 0 r)))->b5 b1 b2 d0 b3 z)->bA t l (m+15) λa4=>aO t p 1 λa5=>aO t p 3 λa6=>aO t p 6 λa7=>(Ji 354 (agF a4 a5 a6 a7) t λg4 g5 g6 g7=>AL g7 (kC 0 0 0) 169 λc4 g8=>ST g8 c4 0 g4 λg9=>b5 c4 0 g5 g6 g9)/\ (AL t (kC 0 0 0) 169 λc5 v=>aM v p 6=some (aB a7)/\ aM v p 3=some (aB a6)/\ aM v p 1=some (aB a5)/\ aM v l (m+15)=some (.pointer a4)/\ Ji 354 (agF a4 a5 a6 a7) v λi0 i1 i2 i3=>ST i3 c5 0 i0 λi4=>b5 c5 0 i1 i2 i4))->b4 c8 c9 t)->bA x l (m+15) λa8=>aO x p 1 λa9=>(AJ 206 (ib a8 a9) x λi5 k4 i6=>AL i6 (kC 0 0 0) 169 λc6 i7=>ST i7 c6 0 i5 λi9=>b4 c6 0 i9)/\ (AL x (kC 0 0 0) 169 λc7 b0=>aM b0 p 1=some (aB a9)/\ aM b0 l (m+15)=some (.pointer a8)/\ AJ 206 (ib a8 a9) b0 λk0 k5 k1=>ST k1 c7 0 k0 λk2=>b4 c7 0 k2)):CF 286 ⟨(SD l m (AI a b c d e f g i j k a0 s n o))⟩ H K:=cE 0x12828d1121721172156123992514449149c [[(11,sS),(64,sI)],[(11,sS)],[(11,sS)],[(8,sA),(9,sB),(10,sI)],[(6,sA)]] h
theorem R2(h : AL H (kB w x) 223 λc f=>jR f c 1 λl=>ID (64<(l.size:Int)) (K (.bool false) f) (∃(i:eH) (k:hZ),i 0 f/\ ∀a b,i a b->jR b c 1 λm=>ID (a<m.size) (jR b c 1 λd=>(IX a d.size)/\ ∀g:ZG,(∀j e,(IF j (K (.bool false) e) (i (i64.wrap (a+1)) e/\k (i64.wrap (a+1)) e<k a b))->g j e)->JF (((decide ((F3 d a.toNat)<33))||(decide (126<(F3 d a.toNat))))=false) (E9 346 (ahO (⟨#[44,61,123,125]⟩:Fb) (F3 d a.toNat)) b λn o=>g (decide (0<=n)) o) (g true b)) (jR b c 0 λp=>Q_b 270 [.string p] b λr1=>K (.bool r1) b))):CF 271 ⟨[(alg w x)]⟩ H K:=cE 0x1d215621399251283c94c [[(30,sB)],[(3,sI)]] h
theorem R3(h : ((((decide ((w.size:Int)<1))||(decide (64<(w.size:Int))))=false)->(IX 0 w.size))/\ (((((decide ((w.size:Int)<1))||(decide (64<(w.size:Int))))||(decide ((F3 w 0)<97)))=false)->(IX 0 w.size))/\ IF ((((decide ((w.size:Int)<1))||(decide (64<(w.size:Int))))||(decide ((F3 w 0)<97)))||(decide (122<(F3 w 0)))) (K (.bool false) H) (∃(c:eH) (d:hZ),c 0 H/\ ∀a b,c a b->ID (a<w.size) ((IX a w.size)/\ IF ((((decide ((F3 w a.toNat)<97))||(decide (122<(F3 w a.toNat))))&&((decide ((F3 w a.toNat)<48))||(decide (57<(F3 w a.toNat)))))&&(!decide ((F3 w a.toNat)=95))) (K (.bool false) b) (c (i64.wrap (a+1)) b/\d (i64.wrap (a+1)) b<d a b)) (K (.bool true) b))):CF 270 ⟨[.string w]⟩ H K:=cE 0x1d215621399251b4c [[(3,sI)]] h
def oO.r1(K:KE)(x3 n2:Int)(Xy:aC):Prop:=
 (IX (u8.wrap x3) (lt0:Fb).size)/\
 K (aB (i64.wrap (n2+(i64.wrap (F3 (lt0:Fb) (u8.wrap x3).toNat))))) Xy
def oO.r2(K:KE)(x2 n1:Int)(Hu:aC):Prop:=
 ∀ZF:rA,(∀x3 n2 Xy,oO.r1 K x3 n2 Xy->ZF x3 n2 Xy)->
 ID (256<=x2) (
 ((0:Int)<=8)/\
 ZF (Int.fdiv x2 (2^(min (Int.toNat 8) (u64.bits)))) (i64.wrap (n1+8)) Hu) (
 ZF x2 n1 Hu)
def oO.r3(K:KE)(x1 n:Int)(H_:aC):Prop:=
 ∀Xr:rA,(∀x2 n1 Hu,oO.r2 K x2 n1 Hu->Xr x2 n1 Hu)->
 ID (65536<=x1) (
 ((0:Int)<=16)/\
 Xr (Int.fdiv x1 (2^(min (Int.toNat 16) (u64.bits)))) (i64.wrap (n+16)) H_) (
 Xr x1 n H_)
theorem R4(h : AL H Je 281 λa c7=>AL c7 [aB 0] 58 λb c8=>SJ 157 [.slice s l m] c8 λc9 d0=>AL d0 [.pointer none] 556 λe d1=>ST d1 e 0 [.pointer c9] λa2=>fm a2 e 0 λd2=>P_u 329 [.agg #[.pointer d2]] a2 (λr1 a3=>∀c3:dL,(∀b6,(ST b6 a 0 [aB (i64.wrap r1)] λd3=>Hi 293 [PA a 0] d3 λd4 a4 k6 d5=>∃(a0:eH) (c5:hZ),a0 0 d5/\ ∀d c,a0 d c->ID (d<a4) (IA d a4 d4 λd6 d7=>bA c d6 (d7+d.toNat) λi=>fm c e 0 λd8=>PR 323 [.agg #[.pointer d8]] c (λr2 d9=>NN i (ST d9 (aV i) (aS i) [aB r2] λa5=>a0 (i64.wrap (d+1)) a5/\c5 (i64.wrap (d+1)) a5<c5 d c)) (λa6 e0=>bK 331 X.calls=true/\ cH Tryz.prog 331 (dz b 0 a 0) (br a6 false) e0 λe1 j=>e1=br a6 true/\ oN j a 0 λe2=>aO j b 0 λe3=>K (fk (.agg ⟨e2⟩) e3) j)) (aO c a 0 λe4=>∀z:dL,(∀x,(bA x e 0 λe5=>E9 166 [.pointer e5] x λr3 e6=>MA 325 [aB r3] e6 (λa7=>oN a7 a 0 λe7=>Xz 284 [.agg ⟨e7⟩] a7 λr4 a8=>∀c4:dL,(∀y,(oN y a 0 λe8=>ST y a 0 e8 λe9=>ST e9 b 0 [aB 0] λf0=>bK 331 X.calls=true/\ cH Tryz.prog 331 (dz b 0 a 0) .returning f0 λf1 k=>f1=.returning/\ oN k a 0 λf2=>aO k b 0 λf3=>K (fk (.agg ⟨f2⟩) f3) k)->c4 y)->IF (!r4) (bK 331 X.calls=true/\ cH Tryz.prog 331 (dz b 0 a 0) (br (.iface 58 (aB 10)) false) a8 λf4 n=>f4=br (.iface 58 (aB 10)) true/\ oN n a 0 λf5=>aO n b 0 λf6=>K (fk (.agg ⟨f5⟩) f6) n) (c4 a8)) (λa9 f7=>bK 331 X.calls=true/\ cH Tryz.prog 331 (dz b 0 a 0) (br a9 false) f7 λf8 o=>f8=br a9 true/\ oN o a 0 λf9=>aO o b 0 λg0=>K (fk (.agg ⟨f9⟩) g0) o))->z x)->ID (e4=4) (fm c e 0 λg1=>PR 322 (MK (.agg #[.pointer g1]) 64) c (λr5 g2=>∃(a1:eH) (c6:hZ),a1 0 g2/\ ∀g f,a1 g f->ID (g<r5) (dN f a 11 λp q r=>fm f e 0 λg3=>CP 332 ⟨[.agg #[.pointer g3]]⟩ f (λg4 b0=>∃b7 b8 b9 c0 c1 c2,g4=(ais b7 b8 b9 c0 c1 c2)/\ aM b0 a 11=some (.slice p q r)/\ AL b0 (ahQ b7 b8 b9 c0 c1 c2) 69 λg5 b1=>aM b1 a 11=some (.slice p q r)/\ AP #[97,97] 97 (fW p q r (some ⟨g5,0,none⟩) 1 1) b1 λg6 g7 g8 g9=>ST g9 a 11 [.slice g6 g7 g8] λb2=>a1 (i64.wrap (g+1)) b2/\c6 (i64.wrap (g+1)) b2<c6 g f) (λb3 i0=>bK 331 X.calls=true/\ cH Tryz.prog 331 (dz b 0 a 0) (br b3 false) i0 λi1 t=>i1=br b3 true/\ oN t a 0 λi2=>aO t b 0 λi3=>K (fk (.agg ⟨i2⟩) i3) t)) (z f)) (λb4 i4=>bK 331 X.calls=true/\ cH Tryz.prog 331 (dz b 0 a 0) (br b4 false) i4 λi5 u=>i5=br b4 true/\ oN u a 0 λi6=>aO u b 0 λi7=>K (fk (.agg ⟨i6⟩) i7) u)) (z c)))->c3 b6)->IF ((decide (r1<1))||(decide (7<r1))) (bK 331 X.calls=true/\ cH Tryz.prog 331 (dz b 0 a 0) (br (.iface 58 (aB 16)) false) a3 λi9 v=>i9=br (.iface 58 (aB 16)) true/\ oN v a 0 λk0=>aO v b 0 λk1=>K (fk (.agg ⟨k0⟩) k1) v) (c3 a3)) (λb5 k2=>bK 331 X.calls=true/\ cH Tryz.prog 331 (dz b 0 a 0) (br b5 false) k2 λk3 w=>k3=br b5 true/\ oN w a 0 λk4=>aO w b 0 λk5=>K (fk (.agg ⟨k4⟩) k5) w)):CF 254 ⟨[.slice s l m]⟩ H K:=cE 0x1111217491215612399251442171561239925449121749c [[],[(40,sI)],[],[(26,sI)],[]] h
def nD.l2(ba:KQ)(bn bc:Nat)(K:KE)(b1 b2 b3:Nat)(Inv2:Int->aC->Prop)(mu2:Int->aC->Nat)(n:Int)(HN:aC):Prop:=
 ID (0<n) (
 fm HN b3 0 λc19=>
 Jj 327 [(.agg #[(.pointer c19)])] HN (λl5 l6 alc=>
 AL alc (SC 0 (⟨#[]⟩:Fb)) 174 λb7 ala=>
 AL ala lq 181 λb8 ak_=>
 ST ak_ b7 0 l5 λak9=>
 ST ak9 b8 0 l6 λaax=>
 bA aax b1 0 λv12=>
 bA aax b1 0 λv13=>
 NN v13 (
 dN aax (aV v13) ((aS v13)+19) λva vn vc=>
 ∃ajy ajw,bE aax b7 0 (SC ajy ajw)/\
 ∃ajx ajv aju ajt ajs ajr ajq ajp,bE aax b8 0 (tu ajx ajv aju ajt ajs ajr ajq ajp)/\
 AL aax (xq ajy ajw ajx ajv aju ajt ajs ajr ajq ajp) 184 λb9 afV=>
 aM afV (aV v13) ((aS v13)+19)=some (.slice va vn vc)/\
 aM afV b1 0=some (.pointer v13)/\
 aM afV b1 0=some (.pointer v12)/\
 AP #[163,163] 163 (fW va vn vc (some ⟨b9,0,none⟩) 1 1) afV λsa sn sc aj0=>
 aM aj0 b1 0=some (.pointer v12)/\
 NN v12 (
 ST aj0 (aV v12) ((aS v12)+19) [(.slice sa sn sc)] λajZ=>
 Inv2 (u64.wrap (n-1)) ajZ/\mu2 (u64.wrap (n-1)) ajZ<mu2 n HN))) (λaeC alb=>
 bK 318 X.calls=true/\
 cH Tryz.prog 318 (dz b1 0 b2 0) (br aeC false) alb λu22 ah5=>u22=br aeC true/\
 bA ah5 b1 0 λai3=>
 aO ah5 b2 0 λai2=>
 K (iG ai3 ai2) ah5)) (
 bA HN b3 0 λv14=>
 E9 166 [(.pointer v14)] HN λr14 ak8=>
 MA 325 [(aB r14)] ak8 (λajY=>
 bA ajY b1 0 λv15=>
 Hi 25 [(.pointer v15)] ajY λra rn rc ak6=>
 Xz 309 (fW ra rn rc ba bn bc) ak6 λr15 ajX=>
 ∀Jn:dL,(∀ah4,(bA ah4 b1 0 λv16=>
 ST ah4 b1 0 [(.pointer v16)] λak5=>
 ST ak5 b2 0 [(aB 0)] λak4=>
 bK 318 X.calls=true/\
 cH Tryz.prog 318 (dz b1 0 b2 0) .returning ak4 λu27 ah3=>u27=.returning/\
 bA ah3 b1 0 λai1=>
 aO ah3 b2 0 λai0=>
 K (iG ai1 ai0) ah3)->Jn ah4)->
 IF (!r15) (
 bK 318 X.calls=true/\
 cH Tryz.prog 318 (dz b1 0 b2 0) (br (.iface 58 (aB 10)) false) ajX λu28 ah2=>u28=br (.iface 58 (aB 10)) true/\
 bA ah2 b1 0 λaiZ=>
 aO ah2 b2 0 λaiY=>
 K (iG aiZ aiY) ah2) (
 Jn ajX)) (λaeB ak7=>
 bK 318 X.calls=true/\
 cH Tryz.prog 318 (dz b1 0 b2 0) (br aeB false) ak7 λu29 ah1=>u29=br aeB true/\
 bA ah1 b1 0 λaiX=>
 aO ah1 b2 0 λaiW=>
 K (iG aiX aiW) ah1))
def nD.l3(ba:KQ)(bn bc:Nat)(K:KE)(b1 b2 b3:Nat)(Hm:Int)(Inv1:Int->aC->Prop)(mu1:Int->aC->Nat)(t76:Int)(HB:aC):Prop:=
 ID (t76<Hm) (
 fm HB b3 0 λc17=>
 Jj 327 [(.agg #[(.pointer c17)])] HB (λl3 l4 aia=>
 AL aia (SC 0 (⟨#[]⟩:Fb)) 174 λb5 ah_=>
 AL ah_ lq 181 λb6 ah9=>
 ST ah9 b5 0 l3 λah8=>
 ST ah8 b6 0 l4 λYA=>
 bA YA b1 0 λv10=>
 NN v10 (
 bA YA (aV v10) ((aS v10)+17) λv11=>
 xr YA b5 0 λl2=>
 nB YA b6 0 λl1=>
 E9 328 [.pointer v11,(.agg ⟨l2⟩),(.agg ⟨l1⟩)] YA λr12 afY=>
 MA 325 [(aB r12)] afY (λafX=>
 Inv1 (i64.wrap (t76+1)) afX/\mu1 (i64.wrap (t76+1)) afX<mu1 t76 HB) (λaeE ah7=>
 bK 318 X.calls=true/\
 cH Tryz.prog 318 (dz b1 0 b2 0) (br aeE false) ah7 λu18 HA=>u18=br aeE true/\
 bA HA b1 0 λaki=>
 aO HA b2 0 λakh=>
 K (iG aki akh) HA))) (λaeF afZ=>
 bK 318 X.calls=true/\
 cH Tryz.prog 318 (dz b1 0 b2 0) (br aeF false) afZ λu19 aay=>u19=br aeF true/\
 bA aay b1 0 λakg=>
 aO aay b2 0 λakf=>
 K (iG akg akf) aay)) (
 fm HB b3 0 λc18=>
 P_u 329 [(.agg #[(.pointer c18)])] HB (λr13 ah6=>
 ∃(Inv2:eH) (mu2:hZ),Inv2 r13 ah6/\
 ∀n HN,Inv2 n HN->nD.l2 ba bn bc K b1 b2 b3 Inv2 mu2 n HN) (λaeD afW=>
 bK 318 X.calls=true/\
 cH Tryz.prog 318 (dz b1 0 b2 0) (br aeD false) afW λu30 ah0=>u30=br aeD true/\
 bA ah0 b1 0 λaiV=>
 aO ah0 b2 0 λaiU=>
 K (iG aiV aiU) ah0))
def nD.l4(ba:KQ)(bn bc:Nat)(K:KE)(b1 b2 b3:Nat)(r6 r7:Int)(b4:Nat)(r8:Int)(Inv:Int->aC->Prop)(mu:Int->aC->Nat)(t54:Int)(MR:aC):Prop:=
 ID (t54<r8) (
 fm MR b3 0 λc14=>
 PR 323 [(.agg #[(.pointer c14)])] MR (λr9 FK=>
 fm FK b3 0 λc15=>
 bA FK b1 0 λv7=>
 CP 324 ⟨[(.agg #[(.pointer c15)]),.pointer v7,aB r9]⟩ FK (λu9 aaB=>∃r0 ai6 ai5 ai4,u9=(ad1 r0 ai6 ai5 ai4)/\
 MU 292 (.map (some b4)) (aB r9) (ad1 r0 ai6 ai5 ai4) aaB λaaA=>
 Inv (i64.wrap (t54+1)) aaA/\mu (i64.wrap (t54+1)) aaA<mu t54 MR) (λpn7 YB=>
 bK 318 X.calls=true/\
 cH Tryz.prog 318 (dz b1 0 b2 0) (br pn7 false) YB λu10 aaz=>u10=br pn7 true/\
 bA aaz b1 0 λakm=>
 aO aaz b2 0 λakl=>
 K (iG akm akl) aaz)) (λpn6 MP=>
 bK 318 X.calls=true/\
 cH Tryz.prog 318 (dz b1 0 b2 0) (br pn6 false) MP λu11 adP=>u11=br pn6 true/\
 bA adP b1 0 λakk=>
 aO adP b2 0 λakj=>
 K (iG akk akj) adP)) (
 bA MR b1 0 λv8=>
 NN v8 (
 bA MR (aV v8) ((aS v8)+16) λv9=>
 E9 326 [.pointer v9,aB r6,aB r7,.map (some b4)] MR λr10 aid=>
 MA 325 [(aB r10)] aid (λaf1=>
 fm af1 b3 0 λc16=>
 PR 322 (MK (.agg #[(.pointer c16)]) 1024) af1 (λHm af0=>
 ∃(Inv1:eH) (mu1:hZ),Inv1 0 af0/\
 ∀t76 HB,Inv1 t76 HB->nD.l3 ba bn bc K b1 b2 b3 Hm Inv1 mu1 t76 HB) (λpn9 aib=>
 bK 318 X.calls=true/\
 cH Tryz.prog 318 (dz b1 0 b2 0) (br pn9 false) aib λu31 ahZ=>u31=br pn9 true/\
 bA ahZ b1 0 λaiT=>
 aO ahZ b2 0 λaiS=>
 K (iG aiT aiS) ahZ)) (λpn8 aic=>
 bK 318 X.calls=true/\
 cH Tryz.prog 318 (dz b1 0 b2 0) (br pn8 false) aic λu32 ahY=>u32=br pn8 true/\
 bA ahY b1 0 λaiR=>
 aO ahY b2 0 λaiQ=>
 K (iG aiR aiQ) ahY)))
theorem R5(h : AL H [aB a,aB b,aB c,aB d,aB e,aB f,aB g,aB i,aB j] 23 λd5 d6=>AL d6 [.pointer none] 74 λk d7=>AL d7 [aB 0] 58 λn b0=>∃c4 c5 c6 c7 c8 c9 d0 d1 d2,bE b0 d5 0 [aB c4,aB c5,aB c6,aB c7,aB c8,aB c9,aB d0,aB d1,aB d2]/\ xv 249 [(aj7 c4 c5 c6 c7 c8 c9 d0 d1 d2)] b0 λd8 r1 d9=>ST d9 k 0 [.pointer d8] λe0=>ST e0 n 0 [aB r1] λx=>aO x n 0 λe1=>IN (e1=0) (aO x n 0 λb1=>ST x k 0 [.pointer none] λb2=>aM b2 n 0=some (aB b1)/\ ST b2 n 0 [aB b1] λz=>bA z k 0 λe2=>aO z n 0 λe3=>K (iG e2 e3) z) (SJ 157 [.slice s l m] x λr2 e4=>AL e4 [.pointer none] 556 λo e5=>ST e5 o 0 [.pointer r2] λq=>bA q k 0 λt=>bA q k 0 λr=>bA q k 0 λp=>fm q o 0 λe6=>fm q o 0 λb3=>fm q o 0 λa0=>PR 320 (MK (.agg #[.pointer e6]) 4611686018427387903) q (λr3 u=>bE u o 0 [.pointer a0]/\ bE u o 0 [.pointer b3]/\ aM u k 0=some (.pointer p)/\ aM u k 0=some (.pointer r)/\ aM u k 0=some (.pointer t)/\ PR 320 (MK (.agg #[.pointer b3]) 1099511627776) u (λr4 v=>bE v o 0 [.pointer a0]/\ aM v k 0=some (.pointer p)/\ aM v k 0=some (.pointer r)/\ aM v k 0=some (.pointer t)/\ PR 320 (MK (.agg #[.pointer a0]) 1099511627776) v (λr5 y=>aM y k 0=some (.pointer p)/\ aM y k 0=some (.pointer r)/\ aM y k 0=some (.pointer t)/\ NN t (ST y (aV t) ((aS t)+9) [aB r3] λa1=>aM a1 k 0=some (.pointer p)/\ aM a1 k 0=some (.pointer r)/\ NN r (ST a1 (aV r) ((aS r)+10) [aB r4] λb4=>aM b4 k 0=some (.pointer p)/\ NN p (ST b4 (aV p) ((aS p)+11) [aB r5] λw=>fm w o 0 λe7=>bA w k 0 λa2=>NN a2 (aO w (aV a2) ((aS a2)+9) λe8=>fm w o 0 λb5=>PR 320 (MK (.agg #[.pointer e7]) e8) w (λr6 b6=>bE b6 o 0 [.pointer b5]/\ PR 321 [.agg #[.pointer b5]] b6 (λr7 e9=>NM e9 λf0 b7=>fm b7 o 0 λf1=>PR 322 (MK (.agg #[.pointer f1]) 64) b7 (λf2 f3=>∃(a9:eH) (i9:hZ),a9 0 f3/\ ∀d3 d4,a9 d3 d4->nD.l4 s l m K k n o r6 r7 f0 f2 a9 i9 d3 d4) (λb8 f4=>bK 318 X.calls=true/\ cH Tryz.prog 318 (dz k 0 n 0) (br b8 false) f4 λf5 a3=>f5=br b8 true/\ bA a3 k 0 λf6=>aO a3 n 0 λf7=>K (iG f6 f7) a3)) (λb9 f8=>bK 318 X.calls=true/\ cH Tryz.prog 318 (dz k 0 n 0) (br b9 false) f8 λf9 a4=>f9=br b9 true/\ bA a4 k 0 λg0=>aO a4 n 0 λg1=>K (iG g0 g1) a4)) (λc0 g2=>bK 318 X.calls=true/\ cH Tryz.prog 318 (dz k 0 n 0) (br c0 false) g2 λg3 a5=>g3=br c0 true/\ bA a5 k 0 λg4=>aO a5 n 0 λg5=>K (iG g4 g5) a5)))))) (λc1 g6=>bK 318 X.calls=true/\ cH Tryz.prog 318 (dz k 0 n 0) (br c1 false) g6 λg7 a6=>g7=br c1 true/\ bA a6 k 0 λg8=>aO a6 n 0 λg9=>K (iG g8 g9) a6)) (λc2 i0=>bK 318 X.calls=true/\ cH Tryz.prog 318 (dz k 0 n 0) (br c2 false) i0 λi1 a7=>i1=br c2 true/\ bA a7 k 0 λi2=>aO a7 n 0 λi3=>K (iG i2 i3) a7)) (λc3 i4=>bK 318 X.calls=true/\ cH Tryz.prog 318 (dz k 0 n 0) (br c3 false) i4 λi5 a8=>i5=br c3 true/\ bA a8 k 0 λi6=>aO a8 n 0 λi7=>K (iG i6 i7) a8))):CF 250 ⟨[(aj7 a b c d e f g i j),.slice s l m]⟩ H K:=cE 0x11d111112156123992514412156123992514421562139925144121749c [[],[(13,sU)],[(76,sI)],[(54,sI)]] h
theorem R6(h : AL H (nA a b) 177 λi n=>cv Tryz.prog (Instr.makeSlice 63 (aB 16) (aB 16)) n λo p=>∃e f l,o=(.slice e f l)/\ ∃(g:eH) (m:hZ),g 0 p/\ ∀c d,g c d->ID (c<8) (aO d i 0 λq=>((0:Int)<=(i64.wrap (8*c)))/\ IA (i64.wrap (7-c)) f e λr s=>ST d r (s+(i64.wrap (7-c)).toNat) [.int .u8 (u8.wrap (Int.fdiv (u64.wrap q) (2^(min (Int.toNat (i64.wrap (8*c))) (u64.bits)))))] λj=>TR j i 1 λt=>((0:Int)<=(i64.wrap (8*c)))/\ IA (i64.wrap (15-c)) f e λu v=>ST j u (v+(i64.wrap (15-c)).toNat) [.int .u8 (u8.wrap (Int.fdiv t (2^(min (Int.toNat (i64.wrap (8*c))) (u64.bits)))))] λk=>g (i64.wrap (c+1)) k/\m (i64.wrap (c+1)) k<m c d) (K (.slice e f l) d)):CF 234 ⟨[(air a b)]⟩ H K:=cE 0x11215612399251144c [[(6,sI)]] h
theorem R7(h : gN H l m λf=>∃e c d,dt Tryz.prog (Instr.lookup 283 (.map f) (aB a) false) H (.slice e c d)/\ ID (b=c) (gN H l m λg=>cv Tryz.prog (Builtin.delete_ #[283,3] 0 #[.map g,aB a]) H λn i=>K (.tuple #[]) i) (gN H l m λj=>(BD 0 (i64.wrap ((c:Int)-b)) d)/\ MU 283 (.map j) (aB a) (.slice (y_ e 0 d 1) ((i64.wrap ((c:Int)-b)).toNat) d) H λk=>K (.tuple #[]) k)):CF 218 ⟨(adM l m a b)⟩ H K:=cE 468 [] h
def Jo.r1(rb ro:Nat)(K:KE)(ra1:KQ)(rn1 rc1:Nat)(SM:aC):Prop:=
 bA SM rb ro λv3=>
 aO SM rb (ro+2) λv4=>
 AL SM [(.slice ra1 rn1 rc1)] 63 λb Hg=>
 aM Hg rb (ro+2)=some (aB v4)/\
 aM Hg rb ro=some (.pointer v3)/\
 E9 283 (agE v3 v4 (some ⟨b,0,none⟩) 1 1) Hg λr2 HV=>
 IN (r2=0) (
 K (LD (-1) r2) HV) (
 aO HV rb (ro+3) λv5=>
 ST HV rb (ro+3) [(aB (i64.wrap (v5+1)))] λH_6=>
 aO H_6 rb (ro+3) λv6=>
 K (LD (i64.wrap (v6-1)) 0) H_6)
theorem R8(h : AL H (ajP w s l m) 62 λe b=>jR b e 0 λt=>Q_b 270 [.string t] b λi=>aaq ((!i)=false) b e 1 λa4 u a5=>IF ((!i)||(decide (8<(u:Int)))) (K (.bool false) b) (dN b e 1 λv j a6=>∃(g:eH) (r:hZ),g 0 b/\ ∀a d,g a d->ID (a<j) (IA a j v λx y=>Jb d x (y+a.toNat*2) λz=>AL d (kB (⟨#[]⟩:Fb) (⟨#[]⟩:Fb)) 223 λf a0=>ST a0 f 0 z λk=>Jb k f 0 λa1=>Xz 271 [.agg ⟨a1⟩] k λr1 c=>aaq (((!r1)=false)/\(decide (0<a))=true) c e 1 λa2 a3 a7=>((((!r1)=false)/\(decide (0<a))=true)->(IX (i64.wrap (a-1)) a3))/\∃p q:Nat,((((!r1)=false)/\(decide (0<a))=true)->(a2=some ⟨p,q,none⟩))/\ ∃n,((((!r1)=false)/\(decide (0<a))=true)->aM c p (q+(i64.wrap (a-1)).toNat*2)=some (.string n))/\ ∃o,((((!r1)=false)/\(decide (0<a))=true)->aM c f 0=some (.string o))/\ IF ((!r1)||((decide (0<a))&&(!Op.bytesLess n.toList o.toList))) (K (.bool false) c) (g (i64.wrap (a+1)) c/\r (i64.wrap (a+1)) c<r a d)) (K (.bool true) d))):CF 193 ⟨[(aiq w s l m)]⟩ H K:=cE 0x1d215612399251b4c [[(18,sI)]] h
def Jp.y1(b1 b2 b3:Nat)(Ht:aC)(R:Loop)(vs:Xa)(PV:aC)(K_:KE):Prop:=
 ∃y y0 y1a y1n y1c,vs=(ahP y (alh y0 y1a y1n y1c))/\
 PV[Ht.size+1]?=some (.loop R)/\
 AL PV (afS 0) 457 λb4 NA=>
 ST NA b4 0 (ajR y0 y1a y1n y1c) λSF=>
 SF[Ht.size+1]?=some (.loop R)/\
 ∀M_:aC,M_=iD SF (Ht.size+1) { R with state:=.busy }->
 aO M_ b4 0 λv=>
 ID (v=0) (
 dN M_ b4 1 λva2 vn2 vc2=>
 ST M_ b2 0 [(.slice va2 vn2 vc2)] λaaG=>
 ST aaG b2 1 [(.bool true)] λaaF=>
 dN aaF b1 0 λva3 vn3 vc3=>
 (BD (i64.wrap (y+1)) vn3 vc3)/\
 ST aaF b3 0 [(.slice (y_ va3 ((i64.wrap (y+1)).toNat) vc3 2) (vn3-((i64.wrap (y+1)).toNat)) (vc3-((i64.wrap (y+1)).toNat)))] λaaE=>
 aaE[Ht.size+1]?=some (.loop { R with state:=.busy })/\K_ (.bool false) (iD aaE (Ht.size+1) { R with state:=.done,pending:=some (.exit 0) })) (
 M_[Ht.size+1]?=some (.loop { R with state:=.busy })/\K_ (.bool true) (iD M_ (Ht.size+1) R))
def uW.r1(rb ro:Nat)(K:KE)(r r1 err:Int)(H_:aC):Prop:=
 dN H_ rb ro λva2 vn2 vc2=>
 Xz 238 (adM rb ro (i64.wrap (r1+r)) err) H_ λr3 Hu=>
 IF (!r3) (
 K (.string (⟨#[]⟩:Fb)) Hu) (
 (BD r1 (i64.wrap (r1+r)) vc2)/\
 ∃s:Fb,dt Tryz.prog (convert 63 9 (.slice (y_ va2 r1.toNat vc2 1) (((i64.wrap (r1+r)).toNat)-r1.toNat) (vc2-r1.toNat))) Hu (.string s)/\
 K (.string s) Hu)
theorem R9(h : dN H l m λf g i=>∃b r1 r2,CQ 242 #[.slice f g i,aB a] H (ak1 b r1 r2)/\ (((decide (r2=0))=true)->True)/\ aaq ((decide (r2=0))=true) H l m λk j n=>∀c:eH,(∀d e,uW.r1 l m K b r1 d e->c d e)->IF ((decide (r2=0))&&(decide ((i64.wrap ((j:Int)-r1))<b))) (c 15 H) (c r2 H)):CF 165 ⟨(lJ l m a)⟩ H K:=cE 73575731676 [[(7,sI)]] h
theorem RA(h : QL H l m λc0 a9 b0 b1 b2 b3 b4 b5 b6 b7 b8 b9 c1 c2 c3 c4 c5 c6 c7 c8 c9 d0=>AL H [aB 0,aB 0,aB 0,aB 0,aB 0,aB 0,aB 0,aB 0,aB 0,aB 0,aB 0,aB 0,aB 0,aB 0,aB 0,.pointer none,.pointer none,.pointer none,.map none,.slice none 0 0] 165 λa d1=>ST d1 a 0 [aB c0,aB a9,aB b0,aB b1,aB b2,aB b3,aB b4,aB b5,aB b6,aB b7,aB b8,aB b9,aB c1,aB c2,aB c3,.pointer c4,.pointer c5,.pointer c6,.map c7,.slice c8 c9 d0] λe=>bA e l (m+15) λd2=>bA e l (m+16) λw=>bA e l (m+17) λq=>SJ 219 [.pointer d2] e λd3 r=>aM r l (m+17)=some (.pointer q)/\ aM r l (m+16)=some (.pointer w)/\ SJ 220 [.pointer w] r λr1 x=>aM x l (m+17)=some (.pointer q)/\ SJ 221 [.pointer q] x λr2 d4=>ST d4 a 15 [.pointer d3] λd5=>ST d5 a 16 [.pointer r1] λd6=>ST d6 a 17 [.pointer r2] λy=>dN y l (m+19) λd7 d8 d9=>Hi 222 [.slice d7 d8 d9] y λe0 e1 e2 e3=>ST e3 a 19 [.slice e0 e1 e2] λe4=>NM e4 λe5 e6=>ST e6 a 18 [.map (some e5)] λz=>gN z l (m+18) λe7=>cv Tryz.prog (Instr.range 162 (.map e7)) z λe8 e9=>∃n:Nat,e8=.pointer (some ⟨n,0,none⟩)/\ ∃(o:dL) (p:ahW),o e9/\ ∀k,o k->cv Tryz.prog (Instr.next (PA n 0) false 0) k λa0 d=>(a0=(.tuple #[.bool false])/\ IF false (∃a7,∃b,dt Tryz.prog (Instr.entry (PA n 0)) d (ajH a7 b)/\ gN d a 18 λf=>NN b (bA d (aV b) (aS b) λf0=>NN b (bA d (aV b) ((aS b)+1) λa1=>NN b (aO d (aV b) ((aS b)+2) λs=>SJ 223 [.pointer f0] d λr3 g=>aM g (aV b) ((aS b)+2)=some (aB s)/\ aM g (aV b) ((aS b)+1)=some (.pointer a1)/\ aM g a 18=some (.map f)/\ SJ 142 [.pointer a1] g λr4 t=>aM t (aV b) ((aS b)+2)=some (aB s)/\ aM t a 18=some (.map f)/\ AL t (agG r3 r4 s) 310 λf1 a2=>aM a2 a 18=some (.map f)/\ MU 162 (.map f) (aB a7) (PA f1 0) a2 λa3=>o a3/\p a3<p k)))) (K (PA a 0) d))\/ (∃f4 f5:Value,a0=(.tuple #[.bool true,f4,f5])/\ IF true (∃a8,∃c,dt Tryz.prog (Instr.entry (PA n 0)) d (ajH a8 c)/\ gN d a 18 λi=>NN c (bA d (aV c) (aS c) λf2=>NN c (bA d (aV c) ((aS c)+1) λa4=>NN c (aO d (aV c) ((aS c)+2) λu=>SJ 223 [.pointer f2] d λr5 j=>aM j (aV c) ((aS c)+2)=some (aB u)/\ aM j (aV c) ((aS c)+1)=some (.pointer a4)/\ aM j a 18=some (.map i)/\ SJ 142 [.pointer a4] j λr6 v=>aM v (aV c) ((aS c)+2)=some (aB u)/\ aM v a 18=some (.map i)/\ AL v (agG r5 r6 u) 310 λf3 a5=>aM a5 a 18=some (.map i)/\ MU 162 (.map i) (aB a8) (PA f3 0) a5 λa6=>o a6/\p a6<p k)))) (K (PA a 0) d))):CF 129 ⟨[PA l m]⟩ H K:=cE 0x11111215612399514c [[]] h
def AT.y1(b b1:Nat)(Hg:aC)(R:Loop)(vs:Xa)(HV:aC)(K_:KE):Prop:=
 ∃y y0 y1,vs=(ahP y (ait y0 y1))/\
 HV[Hg.size+1]?=some (.loop R)/\
 AL HV (fX 0 0) 288 λb2 H_6=>
 ST H_6 b2 0 (fX y0 y1) λP_=>
 P_[Hg.size+1]?=some (.loop R)/\
 ∀Ht:aC,Ht=iD P_ (Hg.size+1) { R with state:=.busy }->
 aO Ht b1 0 λv2=>
 ID (v2<=0) (
 Ht[Hg.size+1]?=some (.loop { R with state:=.busy })/\K_ (.bool false) (iD Ht (Hg.size+1) { R with state:=.done,pending:=some (.exit 0) })) (
 bA Ht b 0 λv3=>
 aO Ht b2 0 λv4=>
 aO Ht b2 1 λv5=>
 aO Ht b1 0 λv6=>
 af_ 218 (adI v3 v4 (if v6<v5 then v6 else v5)) Ht λPV=>
 aO PV b1 0 λv7=>
 aO PV b2 1 λv8=>
 ST PV b1 0 [(aB (i64.wrap (v7-v8)))] λNA=>
 NA[Hg.size+1]?=some (.loop { R with state:=.busy })/\K_ (.bool true) (iD NA (Hg.size+1) R))
theorem RG(h : AL H [PA l m] 130 λd n=>bA n d 0 λx=>E9 69 [.pointer x] n λy z=>AL z [aB 0] 3 λo a0=>ST a0 o 0 [aB (i64.wrap (y-(if 0>a then 0 else a)))] λg=>bA g d 0 λi=>NN i (dN g (aV i) ((aS i)+1) λa1 a2 a3=>C_f 217 [.slice a1 a2 a3] g λp a4 b=>bK p X.calls=true/\ ∀c:Loop,c.state=.ready->c.pending=none->(∀(t:Xa) (u:aC) (v:KE),AT.y1 d o b c t u v->fu Tryz.prog (b.size+1) t u v)->CF p ⟨(.func (.yield (b.size+1)) #[] #[])::a4⟩ ((b.push (.deferred (some []))).push (.loop c)) λa5 q=>∃(w:LoopState) (f:Option Code),w≠.busy/\q[b.size+1]?=some (.loop { c with state:=w,pending:=f })/\ ∀e:aC,e=iD q (b.size+1) { c with state:=.exhausted,pending:=f }->((f=none/\ bA e d 0 λj=>NN j (ST e (aV j) ((aS j)+1) [.slice none 0 0] λr=>r[b.size]?=some (.deferred (some []))/\ K (.tuple #[]) (r.setIfInBounds b.size (.deferred none))))\/ f=(some (.exit 0))/\ bA e d 0 λk=>NN k (ST e (aV k) ((aS k)+1) [.slice none 0 0] λs=>s[b.size]?=some (.deferred (some []))/\ K (.tuple #[]) (s.setIfInBounds b.size (.deferred none)))))):CF 128 ⟨(lJ l m a)⟩ H K:=cFE (.r (.r (.seq (.r (.E8 (.FT [sI,.agg [.int .i64, .int .i64]] [none,(some (.exit 0))] .CL (.E8 (.seq (.r (.cond .no .no)) (.r .CL)))))) .CL))) h
theorem RH(h : AL H Jk 262 λe t=>bA t l (m+15) λx=>AJ 206 (ib x a) t λy z a0=>AL a0 (kC 0 0 0) 169 λf a1=>ST a1 f 0 y λr=>IF (!z) (ST r e 0 Jk λu=>Jl u e 0 λa2=>K (mD (.agg ⟨a2⟩) false) u) (bA r l (m+16) λa3=>Jm 136 (ib a3 a) r λa4 r4 a5=>AL a5 adt 260 λg a6=>ST a6 g 0 a4 λc=>gN c l (m+18) λa7=>adN 162 (.map a7) (aB a) c λb=>∃c0 j k,bE c f 0 (kC c0 j k)/\ ∃n o p q,bE c g 0 (adJ n o p q)/\ NN b (aO c (aV b) ((aS b)+2) λs=>NN b (bA c (aV b) ((aS b)+1) λa8=>HU 144 [.pointer a8] c λr5=>NN b (bA c (aV b) ((aS b)+1) λa9=>NN b (bA c (aV b) (aS b) λv=>Hi 141 [.pointer a9] c λb3 b0 b4 d=>aM d (aV b) (aS b)=some (.pointer v)/\ aM d (aV b) ((aS b)+2)=some (aB s)/\ bE d g 0 (adJ n o p q)/\ bE d f 0 (kC c0 j k)/\ Hi 138 [.pointer v] d λb5 b1 b6 i=>aM i (aV b) ((aS b)+2)=some (aB s)/\ bE i g 0 (adJ n o p q)/\ bE i f 0 (kC c0 j k)/\ ST i e 0 (adK c0 j k n o p q s r5 b0 b1) λw=>Jl w e 0 λb2=>K (mD (.agg ⟨b2⟩) true) w)))))):CF 122 ⟨(lJ l m a)⟩ H K:=cE 1167644 [] h
theorem RI(h : ID ((l:Int)<4) (K (adu 15) H) ((BD 0 (i64.wrap ((l:Int)-4)) m)/\ (BD (i64.wrap ((l:Int)-4)) l m)/\ IA 0 ((l-((i64.wrap ((l:Int)-4)).toNat):Nat):Int) (y_ s ((i64.wrap ((l:Int)-4)).toNat) m 1) λc d=>aag H c (d+0) λe=>IA 1 ((l-((i64.wrap ((l:Int)-4)).toNat):Nat):Int) (y_ s ((i64.wrap ((l:Int)-4)).toNat) m 1) λf g=>aag H f (g+1) λi=>((0:Int)<=8)/\ IA 2 ((l-((i64.wrap ((l:Int)-4)).toNat):Nat):Int) (y_ s ((i64.wrap ((l:Int)-4)).toNat) m 1) λj k=>aag H j (k+2) λn=>((0:Int)<=16)/\ IA 3 ((l-((i64.wrap ((l:Int)-4)).toNat):Nat):Int) (y_ s ((i64.wrap ((l:Int)-4)).toNat) m 1) λo p=>aag H o (p+3) λq=>((0:Int)<=24)/\ AL H [(.slice (y_ s 0 m 1) ((i64.wrap ((l:Int)-4)).toNat) m)] 63 λr a=>∃b,CQ 155 #[.slice (some ⟨r,0,none⟩) 1 1] a (.int .u32 b)/\ IN ((aZ .or .u32 (aZ .or .u32 (aZ .or .u32 (u32.wrap e) (u32.wrap ((u32.wrap i)*2^(min (Int.toNat 8) (u32.bits))))) (u32.wrap ((u32.wrap n)*2^(min (Int.toNat 16) (u32.bits))))) (u32.wrap ((u32.wrap q)*2^(min (Int.toNat 24) (u32.bits)))))=b) (K (adu 14) a) (Hi 48 [(.slice (y_ s 0 m 1) ((i64.wrap ((l:Int)-4)).toNat) m)] a λt u v w=>K (adv t u v 0) w))):CF 85 ⟨[.slice s l m]⟩ H K:=cE 1905116 [] h
theorem RJ(h : AL H (kC b c d) 169 λk s=>gN s l (m+18) λc6=>adN 162 (.map c6) (aB a) s λe=>bA s l (m+16) λc7=>Jm 136 (ib c7 a) s λc8 o6 c9=>AL c9 adt 260 λn d0=>ST d0 n 0 c8 λg=>aO g k 0 λa6=>aO g k 1 λa7=>aO g k 2 λa8=>aO g n 0 λa9=>aah g n 1 λd1=>aah g n 2 λd2=>aah g n 3 λd3=>AL g [.bool d1,.bool d2,.bool d3] 4 λd4 o=>aM o n 0=some (aB a9)/\ aM o k 2=some (aB a8)/\ aM o k 1=some (aB a7)/\ aM o k 0=some (aB a6)/\ HU 137 [.slice (some ⟨d4,0,none⟩) 3 3] o λr4=>AL o [aB a,aB a6,aB a7,aB a8,aB a9,aB r4] 2 λd5 d6=>Hi 73 [.slice (some ⟨d5,0,none⟩) 6 6] d6 λd7 d8 d9 b0=>NN e (aO b0 (aV e) ((aS e)+2) λe0=>AL b0 [aB e0] 2 λe1 e2=>Hi 75 [.slice (some ⟨e1,0,none⟩) 1 1] e2 λe3 e4 e5 e6=>AP #[63,63] 63 (fW d7 d8 d9 e3 e4 e5) e6 λe7 e8 e9 b1=>NN e (bA b1 (aV e) (aS e) λf0=>Hi 138 [.pointer f0] b1 λf1 a1 o7 t=>NN e (bA t (aV e) (aS e) λf2=>Q_b 139 [.pointer f2] t λr5=>NN e (bA t (aV e) (aS e) λb2=>AL t [.bool r5] 4 λf3 u=>aM u (aV e) (aS e)=some (.pointer b2)/\ HU 137 [.slice (some ⟨f3,0,none⟩) 1 1] u λr6=>HU 140 [.pointer b2] u λr7=>AL u (kC r6 r7 a1) 2 λf4 f5=>Hi 73 [.slice (some ⟨f4,0,none⟩) 3 3] f5 λf6 f7 f8 f9=>AP #[63,63] 63 (fW e7 e8 e9 f6 f7 f8) f9 λg0 g1 g2 g3=>∃(a4:oL) (c4:oM),a4 g0 g1 g2 0 g3/\ ∀v w x i j,a4 v w x i j->ID (i<a1) (IA i a1 f1 λg4 g5=>rB j g4 (g5+i.toNat*4) λg6=>AL j agy 279 λp g7=>ST g7 p 0 g6 λq=>aO q p 0 λg8=>aO q p 1 λg9=>aO q p 2 λi0=>aO q p 3 λi1=>AL q (afT g8 g9 i0 i1) 2 λi2 i3=>Hi 73 [.slice (some ⟨i2,0,none⟩) 4 4] i3 λi4 i5 i6 i7=>AP #[63,63] 63 (fW v w x i4 i5 i6) i7 λb3 b4 b5 b6=>a4 b3 b4 b5 (i64.wrap (i+1)) b6/\c4 b3 b4 b5 (i64.wrap (i+1)) b6<c4 v w x i j) (NN e (bA j (aV e) ((aS e)+1) λi9=>NN e (bA j (aV e) ((aS e)+1) λb7=>Hi 141 [.pointer i9] j λk0 a2 o8 b8=>aM b8 (aV e) ((aS e)+1)=some (.pointer b7)/\ SJ 142 [.pointer b7] b8 λk1 k2=>Hi 143 [.pointer k1] k2 λk3 k4 o9 a3=>NN e (bA a3 (aV e) ((aS e)+1) λk5=>HU 144 [.pointer k5] a3 λk6=>AL a3 (fX k6 a2) 2 λk7 k8=>Hi 73 [.slice (some ⟨k7,0,none⟩) 2 2] k8 λk9 m0 m1 m2=>AP #[63,63] 63 (fW v w x k9 m0 m1) m2 λm3 m4 m5 m6=>∃(a5:oL) (c5:oM),a5 m3 m4 m5 0 m6/\ ∀y z a0 f r,a5 y z a0 f r->ID (f<a2) (IA f a2 k0 λm7 m8=>aO r m7 (m8+f.toNat) λm9=>AL r [aB m9] 2 λn0 n1=>Hi 73 [.slice (some ⟨n0,0,none⟩) 1 1] n1 λn2 n3 n4 n5=>AP #[63,63] 63 (fW y z a0 n2 n3 n4) n5 λn6 n7 n8 b9=>IA f k4 k3 λn9 o0=>tw b9 n9 (o0+f.toNat*4) λo1=>Hi 145 [.agg ⟨o1⟩] b9 λo2 o3 o4 o5=>AP #[63,63] 63 (fW n6 n7 n8 o2 o3 o4) o5 λc0 c1 c2 c3=>a5 c0 c1 c2 (i64.wrap (f+1)) c3/\c5 c0 c1 c2 (i64.wrap (f+1)) c3<c5 y z a0 f r) (K (.slice y z a0) r)))))))))):CF 78 ⟨[PA l m,aB a,(ali b c d)]⟩ H K:=cE 0x11111112156123992514411215612399251144c [[(10,sS),(126,sI)],[(10,sS),(85,sI)]] h
end
theorem RK(h : E9 192 (lJ n m a) H λa1 a2=>IN (a1=0) (K (adu a1) a2) (AL a2 [.slice none 0 0] 42 λe j=>aO j n (m+2+1) λc3=>ID (c3=0) (xw 197 (lJ n m 1) j λc4 c5=>AL c5 pw 99 λs c6=>ST c6 s 0 c4 λa3=>aO a3 n (m+2) λc7=>ST a3 s 3 [aB c7] λa4=>kD a4 s 0 λc8=>bK 195 X.calls=true/\ E9 195 (afQ (.agg ⟨c8⟩) e 0) a4 λf8 a5=>dN a5 e 0 λc9 d0 d1=>K (adv c9 d0 d1 0) a5) (dN j n (m+2+6) λd2 a6 f9=>∃(z:eH) (c1:hZ),z 0 j/\ ∀c i,z c i->ID (c<a6) (IA c a6 d2 λd3 d4=>Jg i d3 (d4+c.toNat*3) λd5=>AL i (kC 0 0 0) 356 λb d6=>ST d6 b 0 d5 λd7=>xw 197 (lJ n m 4) d7 λd8 d9=>AL d9 pw 99 λf e0=>ST e0 f 0 d8 λg=>aO g b 0 λe1=>aO g b 1 λa7=>aO g b 2 λt=>aO g n (m+2+2) λk=>ST g f 3 [aB e1] λl=>aM l n (m+2+2)=some (aB k)/\ aM l b 2=some (aB t)/\ aM l b 1=some (aB a7)/\ ST l f 4 [aB a7] λu=>aM u n (m+2+2)=some (aB k)/\ aM u b 2=some (aB t)/\ ST u f 5 [aB t] λa8=>aM a8 n (m+2+2)=some (aB k)/\ ST a8 f 6 [aB k] λa9=>kD a9 f 0 λe2=>bK 195 X.calls=true/\ E9 195 (afQ (.agg ⟨e2⟩) e 0) a9 λr12 b0=>z (i64.wrap (c+1)) b0/\c1 (i64.wrap (c+1)) b0<c1 c i) (ST i n (m+2+6) [.slice none 0 0] λb1=>dN b1 n (m+2+4) λg0 b2 g1=>∀y:dL,(∀c0,(xw 197 (lJ n m 7) c0 λe3 e4=>AL e4 pw 99 λo e5=>ST e5 o 0 e3 λv=>aO v n (m+2+3) λe6=>aO v n (m+2+2) λb3=>ST v o 7 [aB e6] λb4=>aM b4 n (m+2+2)=some (aB b3)/\ ST b4 o 8 [aB b3] λb5=>kD b5 o 0 λe7=>bK 195 X.calls=true/\ E9 195 (afQ (.agg ⟨e7⟩) e 0) b5 λg2 b6=>dN b6 e 0 λe8 e9 f0=>K (adv e8 e9 f0 0) b6)->y c0)->∃(a0:eH) (c2:hZ),a0 (if 64<(b2:Int) then 64 else (b2:Int)) b1/\ ∀d r,a0 d r->ID (0<d) (xw 197 (lJ n m 5) r λf1 f2=>AL f2 pw 99 λp f3=>ST f3 p 0 f1 λw=>HU 198 [PA n m] w λf4=>dN w n (m+2+4) λb7 f5 q=>(BD 0 d q)/\ ST w p 7 [aB f4] λb8=>aM b8 n (m+2+4)=some (.slice b7 f5 q)/\ ST b8 p 10 [.slice (y_ b7 0 q 4) d.toNat q] λb9=>kD b9 p 0 λf6=>bK 195 X.calls=true/\ E9 195 (afQ (.agg ⟨f6⟩) e 0) b9 λf7 x=>IN (f7=17) (y x) (a0 (i64.wrap (d-1)) x/\c2 (i64.wrap (d-1)) x<c2 d r)) (y r))))):CF 116 ⟨(lJ n m a)⟩ H K:=cE 0x121b11213111c92156123992511144121a621399251113994111c [[(13,sI)],[],[(47,sI)]] h
theorem RM{l:Nat}{o:Nat}{p:Nat}{q:Nat}(h : aO H n (o+3) λy=>aO H n (o+5) λz=>Jc H n (o+8) λa0=>xu 112 (adL l m y z (.agg ⟨a0⟩)) H λa1 r1 a=>IN (r1=0) (K (aB r1) a) (bA a p q λd=>bA a p q λb=>NN b (dN a (aV b) ((aS b)+3) λg i j=>aO a n (o+1) λk=>HU 37 [PA l m] a λr2=>HU 113 [PA l m] a λr3=>bA a p q λe=>NN e (aO a (aV e) ((aS e)+148) λr=>HU 114 [PA l m] a λr4=>aO a n (o+5) λs=>Jc a n (o+8) λa2=>CF 50 ⟨[.agg ⟨a2⟩]⟩ a λa3 c=>∃u v w x,a3=(aiq u v w x)/\ aM c n (o+5)=some (aB s)/\ aM c (aV e) ((aS e)+148)=some (aB r)/\ aM c p q=some (.pointer e)/\ aM c n (o+1)=some (aB k)/\ aM c (aV b) ((aS b)+3)=some (.slice g i j)/\ aM c p q=some (.pointer b)/\ aM c p q=some (.pointer d)/\ AL c [aB k,aB r2,aB a1,aB r3,aB r,aB r4,aB s,.string u,.slice v w x] 71 λa4 f=>aM f (aV b) ((aS b)+3)=some (.slice g i j)/\ aM f p q=some (.pointer b)/\ aM f p q=some (.pointer d)/\ AP #[44,44] 44 (fW g i j (some ⟨a4,0,none⟩) 1 1) f λa5 a6 a7 t=>aM t p q=some (.pointer d)/\ NN d (ST t (aV d) ((aS d)+3) [.slice a5 a6 a7] λa8=>K (aB 0) a8))))):CF 111 ⟨[PA l m,PA n o,PA p q]⟩ H K:=cE 72988 [] h
theorem RP{b:Int}{c:Int}{d:Int}{e:Int}{f:Int}{g:Int}{i:Int}{l:Nat}{o:Nat}{p:Nat}{q:Nat}{t:KQ}(h : AL H (AK a b c d e f g i w s n o t p q) 65 λu v=>∀a1:AD,(∀k r a0 j,(IN (a0=0) (K (aB a0) j) (aah j k r λa4=>IF a4 (bA j l (m+215) λa5=>aO j k (r+1) λa6=>aO j l (m+148) λa7=>dN j k (r+3) λa8 a9 b0=>E9 117 [.pointer a5,aB a6,aB a7,.slice a8 a9 b0] j λb1 b2=>K (aB b1) b2) (aO j k (r+1) λb3=>aO j u 3 λb4=>E9 110 (adL l m b3 b4 (.func (.func 118) #[] #[PA u 0,PA k r])) j λr1 b5=>K (aB r1) b5)))->a1 k r a0 j)->bA v l (m+213) λx=>aO v u 6 λy=>(xx 58 (ib x y) v λb6 r3 b7=>AL b7 uT 92 λa2 b8=>ST b8 a2 0 b6 λb9=>a1 a2 0 r3 b9)/\ (AL v uT 92 λa3 z=>aM z u 6=some (aB y)/\ aM z l (m+213)=some (.pointer x)/\ xx 58 (ib x y) z λc0 r4 c1=>ST c1 a3 0 c0 λc2=>a1 a3 0 r4 c2)):CF 57 ⟨(SD l m (AM a b c d e f g i w s n o t p q))⟩ H K:=cE 1215964 [[(5,sA),(6,sI)]] h
theorem RQ{b:Int}{c:Int}{d:Int}{e:Int}{f:Int}{g:Int}{i:Int}{l:Nat}{o:Nat}{t:KQ}(h : AL H (AK a b c d e f g i w s l m t n o) 65 λa0 b2=>uU b2 a0 0 λc6=>AL b2 [aB 0,aB 0,aB 0,aB 0,aB 0,aB 0,aB 0,aB 0,.string (⟨#[]⟩:Fb),.slice none 0 0,.slice none 0 0] 65 λj c7=>ST c7 j 0 c6 λq=>aO q a0 0 λk=>∀a1:dL,(∀p,(aO p j 1 λc8=>aO p j 2 λc9=>aO p j 3 λd0=>aO p j 4 λd1=>aO p j 5 λd2=>aO p j 6 λd3=>aO p j 7 λd4=>AL p [aB 0,aB 0,aB 0,aB 0,aB 0,aB 0,aB 0] 248 λb3 d5=>ST d5 b3 0 [aB c8,aB c9,aB d0,aB d1,aB d2,aB d3,aB d4] λr=>aO r a0 1 λd6=>Q_b 87 [aB d6] r λu=>ae_ (u=true) r b3 0 λd7 d8 d9 e0 e1 e2 e3=>∃x:Bool,((u=true)->i8 Tryz.prog .eql 248 (.agg ⟨[aB d7,aB d8,aB d9,aB e0,aB e1,aB e2,aB e3]⟩) (.agg ⟨[aB 0,aB 0,aB 0,aB 0,aB 0,aB 0,aB 0]⟩) x)/\ ∃y,(((u&&x)=true)->aM r j 8=some (.string y))/\ aaq (((u&&x)&&(y.toList == (⟨#[]⟩:Fb).toList))=true) r j 9 λg1 b4 g2=>aaq ((((u&&x)&&(y.toList == (⟨#[]⟩:Fb).toList))&&(decide ((b4:Int)=0)))=true) r j 10 λg3 e4 g4=>K (.bool ((((u&&x)&&(y.toList == (⟨#[]⟩:Fb).toList))&&(decide ((b4:Int)=0)))&&(decide ((e4:Int)=0)))) r)->a1 p)->ID (k=0) (ST q j 2 [aB 0] λe5=>a1 e5) (∀a2:dL,(∀b5,(a1 b5)->a2 b5)->ID (k=1) (ST q j 1 [aB 0] λe6=>ST e6 j 4 [aB 0] λe7=>a2 e7) (∀a3:dL,(∀b6,(a2 b6)->a3 b6)->ID (k=2) (ST q j 1 [aB 0] λe8=>ST e8 j 3 [aB 0] λe9=>ST e9 j 5 [aB 0] λf0=>ST f0 j 8 [(.string (⟨#[]⟩:Fb))] λf1=>ST f1 j 9 [.slice none 0 0] λf2=>a3 f2) (∀a4:dL,(∀b7,(a3 b7)->a4 b7)->ID (k=3) (ST q j 1 [aB 0] λf3=>ST f3 j 3 [aB 0] λf4=>a4 f4) (∀a5:dL,(∀b8,(a4 b8)->a5 b8)->ID (k=4) (ST q j 6 [aB 0] λf5=>ST f5 j 3 [aB 0] λf6=>a5 f6) (∀a6:ZG,(∀b9 v,(∀a7:dL,(∀c0,(a5 c0)->a7 c0)->IF b9 (ST v j 6 [aB 0] λf7=>a7 f7) (∀a8:dL,(∀c1,(a7 c1)->a8 c1)->ID (k=7) (ST v j 1 [aB 0] λf8=>ST f8 j 10 [.slice none 0 0] λf9=>a8 f9) (∀a9:ZG,(∀c2 z,(∀b0:dL,(∀c3,(a8 c3)->b0 c3)->IF c2 (b0 z) (ID (k=11) (ST z j 7 [aB 0] λg0=>b0 g0) (K (.bool false) z)))->a9 c2 z)->ID (k=8) (a9 (decide (k=8)) v) (∀b1:ZG,(∀c4 c5,(a9 c4 c5)->b1 c4 c5)->ID (k=9) (b1 (decide (k=9)) v) (b1 (decide (k=10)) v)))))->a6 b9 v)->ID (k=5) (a6 (decide (k=5)) q) (a6 (decide (k=6)) q))))))):CF 53 ⟨[(AM a b c d e f g i w s l m t n o)]⟩ H K:=cE 0x11215174174171417417421794741742179179479134c1c [[],[(40,sB)],[(40,sB)],[],[],[(32,sB)],[],[],[],[],[]] h
theorem RR{b:Int}{c:Int}{d:Int}{e:Int}{f:Int}{g:Int}{i:Int}{l:Nat}{o:Nat}{p:Nat}{q:Nat}{t:KQ}(h : AL H (AK a b c d e f g i w s n o t p q) 65 λk a3=>uU a3 k 0 λb3=>Xz 53 [.agg ⟨b3⟩] a3 λb4 j=>IF (!b4) (K (aB 10) j) (aO j k 0 λr=>∀z:dL,(∀a8,(K (aB 0) a8)->z a8)->ID (r=0) (aO j k 2 λa4=>aO j l (m+148) λa5=>lI ((decide (a4<a5))=false) j k 2 λb5=>IF ((decide (a4<a5))||(decide (4611686018427387903<b5))) (K (aB 11) j) (aO j k 2 λb6=>ST j l (m+148) [aB b6] λb7=>z b7)) (ID (r=1) (aO j k 1 λa6=>(IX a6 64)/\ bA j l (m+149+a6.toNat) λb8=>aO j k 4 λb9=>E9 54 (ib b8 b9) j λr1 c0=>K (aB r1) c0) (ID (r=2) (uU j k 0 λc1=>E9 55 (SD l m (.agg ⟨c1⟩)) j λr2 c2=>K (aB r2) c2) (ID (r=3) (uU j k 0 λc3=>E9 56 (SD l m (.agg ⟨c3⟩)) j λr3 c4=>K (aB r3) c4) (ID (r=4) (uU j k 0 λc5=>E9 57 (SD l m (.agg ⟨c5⟩)) j λr4 c6=>K (aB r4) c6) (ID (r=5) (∀a0:eH,(∀a9 b0,(K (aB a9) b0)->a0 a9 b0)->bA j l (m+213) λu=>aO j k 6 λv=>(xx 58 (ib u v) j λc7 r5 c8=>AL c8 uT 92 λc9 d0=>ST d0 c9 0 c7 λd1=>a0 r5 d1)/\ (AL j uT 92 λd2 x=>aM x k 6=some (aB v)/\ aM x l (m+213)=some (.pointer u)/\ xx 58 (ib u v) x λd3 r6 d4=>ST d4 d2 0 d3 λd5=>a0 r6 d5)) (ID (r=6) (bA j l (m+213) λd6=>aO j k 6 λd7=>xu 59 (ib d6 d7) j λr7 d8 d9=>K (aB d8) d9) (∀a1:dL,(∀b1,(z b1)->a1 b1)->ID (r=7) (aO j k 1 λa7=>(IX a7 64)/\ ST j l (m+5+a7.toNat) [.bool true] λy=>aO y k 1 λe0=>dN y k 10 λe1 e2 e3=>af_ 60 [PA l m,.bool true,aB e0,.slice e1 e2 e3] y λe4=>a1 e4) (ID (r=8) (E9 61 [PA l m] j λe5 e6=>K (aB e5) e6) (∀a2:dL,(∀b2,(a1 b2)->a2 b2)->ID (r=9) (bA j l (m+215) λe7=>Hi 63 [.pointer e7] j λe8 e9 f0 f1=>af_ 62 (ajT l m e8 e9 f0) f1 λf2=>a2 f2) (ID (r=10) (bA j l (m+215) λf3=>dN j l (m+2) λf9 f4 g0=>E9 64 (ib f3 f4) j λf5 f6=>K (aB f5) f6) (ID (r=11) (aO j k 7 λf7=>E9 65 (lJ l m f7) j λHm f8=>K (aB Hm) f8) (a2 j)))))))))))))):CF 15 ⟨(SD l m (AM a b c d e f g i w s n o t p q))⟩ H K:=cE 0x1d21517d413c13c13c13c1328c131c171413c17413cbc [[],[],[(6,sI)],[]] h
theorem RT{b:Int}{c:Int}{d:Int}{e:Int}{f:Int}{g:Int}{i:Int}{j:Int}{k:Int}{a0:Int}{a1:Int}{a2:Int}{a3:Int}{a4:Int}(h : AL H (uV a b c d e f g i j k a0 a1 a2 a3 a4) 27 λn b3=>∃b7 b8 b9 c0 c1 c2 c3 c4 c5 c6 c7 c8 c9 d0 d1,bE b3 n 0 (uV b7 b8 b9 c0 c1 c2 c3 c4 c5 c6 c7 c8 c9 d0 d1)/\ Xz 88 [(ad2 b7 b8 b9 c0 c1 c2 c3 c4 c5 c6 c7 c8 c9 d0 d1)] b3 λe9 p=>IF (!e9) (K (iG none 11) p) (∃r s t u v w x y z a5 a6 a7 a8 a9 b0,bE p n 0 (uV r s t u v w x y z a5 a6 a7 a8 a9 b0)/\ SJ 89 [] p λr1 b4=>bE b4 n 0 (uV r s t u v w x y z a5 a6 a7 a8 a9 b0)/\ AL b4 [.pointer none,.map none,.slice none 0 0,.slice none 0 0,.map none,.bool false,.bool false,.bool false,.bool false,.bool false,.bool false,.bool false,.bool false,.bool false,.bool false,.bool false,.bool false,.bool false,.bool false,.bool false,.bool false,.bool false,.bool false,.bool false,.bool false,.bool false,.bool false,.bool false,.bool false,.bool false,.bool false,.bool false,.bool false,.bool false,.bool false,.bool false,.bool false,.bool false,.bool false,.bool false,.bool false,.bool false,.bool false,.bool false,.bool false,.bool false,.bool false,.bool false,.bool false,.bool false,.bool false,.bool false,.bool false,.bool false,.bool false,.bool false,.bool false,.bool false,.bool false,.bool false,.bool false,.bool false,.bool false,.bool false,.bool false,.bool false,.bool false,.bool false,.bool false,.bool false,.bool false,.bool false,.bool false,.bool false,.bool false,.bool false,.bool false,.bool false,.bool false,.bool false,.bool false,.bool false,.bool false,.bool false,.bool false,.bool false,.bool false,.bool false,.bool false,.bool false,.bool false,.bool false,.bool false,.bool false,.bool false,.bool false,.bool false,.bool false,.bool false,.bool false,.bool false,.bool false,.bool false,.bool false,.bool false,.bool false,.bool false,.bool false,.bool false,.bool false,.bool false,.bool false,.bool false,.bool false,.bool false,.bool false,.bool false,.bool false,.bool false,.bool false,.bool false,.bool false,.bool false,.bool false,.bool false,.bool false,.bool false,.bool false,.bool false,.bool false,.bool false,.bool false,.bool false,aB r,aB s,aB t,aB u,aB v,aB w,aB x,aB y,aB z,aB a5,aB a6,aB a7,aB a8,aB a9,aB b0,aB 0,.pointer none,.pointer none,.pointer none,.pointer none,.pointer none,.pointer none,.pointer none,.pointer none,.pointer none,.pointer none,.pointer none,.pointer none,.pointer none,.pointer none,.pointer none,.pointer none,.pointer none,.pointer none,.pointer none,.pointer none,.pointer none,.pointer none,.pointer none,.pointer none,.pointer none,.pointer none,.pointer none,.pointer none,.pointer none,.pointer none,.pointer none,.pointer none,.pointer none,.pointer none,.pointer none,.pointer none,.pointer none,.pointer none,.pointer none,.pointer none,.pointer none,.pointer none,.pointer none,.pointer none,.pointer none,.pointer none,.pointer none,.pointer none,.pointer none,.pointer none,.pointer none,.pointer none,.pointer none,.pointer none,.pointer none,.pointer none,.pointer none,.pointer none,.pointer none,.pointer none,.pointer none,.pointer none,.pointer none,.pointer none,.pointer none,.pointer r1,.pointer none] 133 λl f0=>SJ 90 [] f0 λr2 f1=>ST f1 l 0 [.pointer r2] λf2=>NM f2 λf3 f4=>ST f4 l 1 [.map (some f3)] λf5=>NM f5 λf6 f7=>ST f7 l 4 [.map (some f6)] λf8=>∃(b2:eH) (e8:hZ),b2 0 f8/\ ∀m o,b2 m o->ID (m<64) (aO o n 13 λf9=>xv 91 (fX m f9) o λr3 r4 g0=>(IX m 64)/\ ST g0 l (149+m.toNat) [.pointer r3] λb5=>b2 (i64.wrap (m+1)) b5/\e8 (i64.wrap (m+1)) b5<e8 m o) (aO o n 14 λg1=>xv 92 [aB g1] o λr5 r6 g2=>ST g2 l 213 [.pointer r5] λq=>bA q l 214 λg3=>∃d2 d3 d4 d5 d6 d7 d8 d9 e0 e1 e2 e3 e4,bE q n 0 (ajS d2 d3 d4 d5 d6 d7 d8 d9 e0 e1 e2 e3 e4)/\ CF 93 ⟨[.pointer g3,(aj9 d2 d3 d4 d5 d6 d7 d8 d9 e0 e1 e2 e3 e4)]⟩ q λg4 b6=>∃r7 e5 e6 e7 b1,g4=(ajG r7 e5 e6 e7 b1)/\ IN (b1=0) (K (iG none b1) b6) (ST b6 l 215 [.pointer r7] λg5=>af_ 62 (ajT l 0 e5 e6 e7) g5 λg6=>K (.tuple #[PA l 0,aB 0]) g6)))):CF 31 ⟨[(ad2 a b c d e f g i j k a0 a1 a2 a3 a4)]⟩ H K:=cE 0x1d11112156123992514411d11c [[(31,sI)]] h
end Go.Proofs.YtlmphkpeajnhjaaGreatDoor
