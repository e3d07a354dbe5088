/-
  Lemmas for TaleBack: part 2 of what it rests on. Conditions: none.
-/
import Derived.Test.YtnjaappmhadfdaaGreatDoorTF1
set_option linter.unusedVariables false
set_option linter.unusedSimpArgs false
set_option maxRecDepth 100000
set_option maxHeartbeats 16000000
open Go.IntKind (i64 u64 i8 u8 i32 u32 i16 u16)
namespace Go.Proofs.YtnjaappmhadfdaaGreatDoor
open Go
theorem DZ{P:Program}{t:TypeId}{xs ys:Xb}{r:Bool}(h:nQ P t xs ys=some r)(w:World):(Op.equalIn 10000 t (.agg ⟨xs⟩) (.agg ⟨ys⟩)).run P w=.ok r w:=by
 grind [nQ,Program.fieldsOf,run_equalIn_struct,y8]
theorem NW{P:Program}{em:Bool}{n:Nat}{t:TypeId}{v:Value}(h:iR (P.underlying t) v=true)(w:World):(Instr.checkKey em (n+1) t v).run P w=.ok () w:=by
 cases hu:P.underlying t with
 | none=>grind [iR]
 | some d=>
  rw[hu]at h
  cases d <;> cases v <;> simp[iR]at h <;> simp[Instr.checkKey,run_underlying hu]
def chkF(P:Program)(xs:Xb):List Field->Bool
 | []=>true
 | f::r=>(match aI xs f.offset with|some v=>iR (P.underlying f.type) v|none=>false)&&chkF P xs r
theorem NY{P:Program}{em:Bool}{n:Nat}{t:TypeId}{xs:Xb}{fs:Array Field}(c:P.underlying t=some (.struct fs))(h:chkF P xs fs.toList=true)(w:World) :
  (Instr.checkKey em (n+1+1) t (.agg ⟨xs⟩)).run P w=.ok () w:=by
 rw[Instr.checkKey];simp only[Sem.run_bind,run_underlying c,Result.andThen_ok];rw[<-Array.forIn_toList];generalize fs.toList=l at h
 induction l with
 | nil=>simp
 | cons f r b=>
  simp only[chkF,V4]at h;have b:=b h.2;have a:=h.1
  split at a
  .rename_i v d;have i:=tu (w:=w) a d;have e:=NW (em:=em) (n:=n) a w
   simp_all
  .cases a
theorem yA{κ:Type}[DecidableEq κ]{P:Program}{k:TypeId}{V:κ->Value}(b:∀x y w,(Op.equal k (V x) (V y)).run P w=.ok (decide (x=y)) w)(x:κ)(w:World):∀(es:List MapEntry) (a:List κ) (i:Nat),es.map (·.key)=a.map V->
  (x∉a->(Instr.findAsking k (V x) es i).run P w=.ok none w)/\∀j en,a[j]?=some x->(∀l,l<j->a[l]?≠some x)->es[j]?=some en->(Instr.findAsking k (V x) es i).run P w=.ok (some (i+j,en.val)) w
 | [],[],i,_=>⟨λ_=>by simp[Instr.findAsking],λj e h=>by simp at h⟩
 | [],_::_,i,h=>by simp at h
 | _::_,[],i,h=>by simp at h
 | e0::es,y::a,i,h=>by
  simp only[VR,List.cons.injEq]at h;obtain⟨m,f⟩:=yA b x w es a (i+1) h.2;have c:=b x y w;rw[<-h.1]at c
  by_cases e:x=y
  .subst e;refine⟨λd=>V0 (by simp) d,λj e1 t s n=>?_⟩
   have:j=0:=by
    cases j with
    | zero=>rfl
    | succ j=>exact V0 rfl (s 0 (by omega))
   subst this;simp at n;subst n;simp[Instr.findAsking,Sem.run_bind,c]
  .refine⟨λd=>?_,λj e1 t s n=>?_⟩
   .simp only[V9,not_or]at d;simp[Instr.findAsking,Sem.run_bind,c,e,m d.2]
   .cases j with
    | zero=>grind
    | succ j=>
     have:=f j e1 (by grind) (λl u=>by grind) (by grind)
     simp only[Instr.findAsking,Sem.run_bind,c,e,decide_false,Result.andThen_ok,WQ,if_false,this]
     grind
theorem Ea{d:TypeDesc}(x:Value)(b:∃a,x=.agg a):∀(es:List MapEntry) (i:Nat),es≠[]->Instr.findNow d x es i=none
 | [],_,h=>V0 rfl h
 | e0::es,i,_=>by
  obtain⟨a,rfl⟩:=b
  grind [Instr.sameNow,Instr.findNow]
theorem yB{κ:Type}[DecidableEq κ]{P:Program}{k:TypeId}{fs:Array Field}{enc:κ->Xb}(a:P.underlying k=some (.struct fs))(hi:∀x y,enc x=enc y->x=y)
  (b:∀x y,nQ P k (enc x) (enc y)=some (decide (x=y))) (c:∀x,chkF P (enc x) fs.toList=true) (hb:∀x n,Instr.sameBits (n+1+1) (.agg ⟨enc x⟩) (.agg ⟨enc x⟩)=true):jG P k (λx=>.agg ⟨enc x⟩) where
 inj x y h:=hi x y (by grind)
 chk em x w:=NY (n:=9998) a (c x) w
 non x ks es w hk2 hx:=by
  simp only[Instr.findKey,Sem.run_bind,run_underlying a,Result.andThen_ok]
  cases es with
  | nil=>simp[Instr.findNow]
  | cons e0 r=>
   rw[Ea (.agg ⟨enc x⟩) ⟨_,rfl⟩ (e0::r) 0 (by simp)];exact (yA (V:=λx=>.agg ⟨enc x⟩) (λx y w=>DZ (b x y) w) x w _ ks 0 hk2).1 hx
 fnd x ks es w i en hk2 h1 h2 h3:=by
  simp only[Instr.findKey,Sem.run_bind,run_underlying a,Result.andThen_ok]
  cases es with
  | nil=>simp at h3
  | cons e0 r=>
   rw[Ea (.agg ⟨enc x⟩) ⟨_,rfl⟩ (e0::r) 0 (by simp)];have:=(yA (V:=λx=>.agg ⟨enc x⟩) (λx y w=>DZ (b x y) w) x w _ ks 0 hk2).2 i en h1 h2 h3
   grind
 stay x w:=by simp[Instr.keyThatStays,hb x 9998]
def gk(s:Eq):List Int:=s.data.toList.map λb=>(b.toNat:Int)
theorem vw(s:Eq):(gk s).length=s.size:=by
 rw[gk,VP,WM];rfl
theorem NZ(s:Eq):∀x∈gk s,0<=x/\x<256:=by
 intro x a;simp only[gk,V8]at a;obtain⟨b,_,rfl⟩:=a;have:=b.toNat_lt;omega
section
variable {H:aC}{F:aD}{e sz n c:Nat}{a:Xa}{cs:Xb}
theorem Eb{P:Program}(s:Eq)(size:Nat)(w:World):(Builtin.firstCells size s.size (.string s)).run P w=.ok (((gk s).map U8).toArray) w:=by
 have c:s.extract 0 s.size=s:=by simp
 have a:s.data.map (λb=>Value.int .u8 b.toNat)=((gk s).map U8).toArray:=by
  apply Array.ext';rw[Array.toList_map,List.toList_toArray,gk,Wg];rfl
 simp only[Builtin.firstCells,c,a];rfl
theorem Oa{P:Program}{t ts bytes ty:Nat}(T:SlT P t e 1 bytes)(y:P.underlying ts=some .string){s:Eq}{K:KQ}(h:aO H (slA e 1 a n c cs*F))
  (hb:(n+s.size)*bytes<=140737488355328) (hn:n+s.size<=140737488355328)
  (k:∀V Z H',aO H' (slA e 1 V (n+s.size) Z (cs++(gk s).map U8)*F)->K (.slice V (n+s.size) Z) H') :
  bS P (Builtin.append_ #[t,ts] ty #[.slice a n c,.string s]) H K:=by
 obtain⟨L,h1,i,z,hi,hz,B,rfl,x⟩:=T;refine .mk λw R=>?_
 subst R;obtain⟨d,D⟩:=jF h;have hl:((gk s).map U8).length=s.size:=by grind [vw]
 have I:cK ((gk s).map U8)=true:=mW (λ_=>rfl) _
 have U:¬(9223372036854775807<(n:Int)+(s.size:Int)):=by omega
 have A:=Eb (P:=P) s i.size w;have O:=Eb (P:=P) s i.size w.drew;have E:=te (P:=P) (w:=w.drew) (a2:=a) (m:=n) (c2:=c) (yr h) d;generalize hws:(gk s).map U8=ws at *;rw[<-B]at d D x E
 by_cases hroom:n+s.size<=c
 .rcases D with ⟨D,W,Q,C⟩|⟨b,f,post,e',fr,D,W,Q,hf,C⟩
  .subst D;subst W;subst Q;have N:s.size=0:=by omega
   obtain rfl:ws=[]:=Wi (by omega);obtain rfl:cs=[]:=Wi (by grind);refine⟨.slice none (0+s.size) 0,w,?_,bR.refl w,k _ _ _ ?_⟩
   .rw [N]at A;simp[Builtin.append_,run_underlying L,run_underlying y,sizeOf,typeInfo,hi,Builtin.lenOf,N,A]
   .rw [N];exact rh C
  .subst D;have u:i.size=1:=B.symm▸rfl;have G:ws.length<=post.length:=by
    grind
   have v:dJ w.heap b (f.length+n*i.size) ws:=C.canG ws _ (by grind) λj J h7=>hf j (by omega) (by grind)
   obtain⟨w',J,h7,h8⟩:=qO (P:=P) (b:=b) ws (f.length+n*i.size) 0 w (by simpa using v) (by simpa using qP _ _ v) I;refine⟨.slice (some ⟨b,f.length,none⟩) (n+s.size) c,w',?_,h7,k _ _ _ ?_⟩
   .simp [Builtin.append_,run_underlying L,run_underlying y,sizeOf,typeInfo,hi,Builtin.lenOf,hroom,A,fu,J]
   .rw [h8];have Y:=aO.setsG ws (f.length+n*i.size) C;have e1:f.length+n*i.size=(f++cs).length:=by simp[d]
    rw[e1,rj _ _ _ G]at Y;rw[Wk,e1];rw[u]at d Q;refine Y.frame λp I=>⟨by grind,.inr ⟨b,f,post.drop ws.length,e',fr,rfl,hroom,?_,λh=>by grind,by simpa using I⟩⟩
    grind
 .have M:¬(281474976710656<Builtin.nextslicecap (n+s.size) c*i.bytes):=by
   have:=growslice_fits (need:=n+s.size) (old:=c) (bytes:=i.bytes) (by omega) hb;omega
  refine⟨.slice (some ⟨w.heap.size,0,none⟩) (n+s.size) (grownCap w (n+s.size) c e),w.drew.alloc (.cells (cs.toArray++ws.toArray++Builtin.zeroCells z.cells (grownCap w (n+s.size) c e-(n+s.size))) e),?_,⟨rfl,rfl,rfl⟩,k _ _ _ ?_⟩
  .simp [Builtin.append_,run_underlying L,run_underlying y,sizeOf,typeInfo,zeroValue,hi,hz,Builtin.lenOf,hroom,U,M,Question.forced,E,O,newRow,grownCap]
   grind
  .have C:aO w.heap F:=h.drop';have J:=C.push (.cells (cs.toArray++ws.toArray++Builtin.zeroCells z.cells (grownCap w (n+s.size) c e-(n+s.size))) e);have S:=grownCap_ge w (n+s.size) c e;have u:i.size=1:=B.symm▸rfl;rw[u]at d x;refine J.frame λp I=>⟨by grind,.inr ⟨w.heap.size,[],(Builtin.zeroCells z.cells (grownCap w (n+s.size) c e-(n+s.size))).toList,e,(0,0),rfl,S,?_,λ_ i _ _ hh=>by simp at hh,?_⟩⟩
   .rw [WM,size_zeroCells,x]
    grind
   .have e2:(([]:Xb)++(cs++ws)++(Builtin.zeroCells z.cells (grownCap w (n+s.size) c e-(n+s.size))).toList).toArray=cs.toArray++ws.toArray++Builtin.zeroCells z.cells (grownCap w (n+s.size) c e-(n+s.size)):=by
     grind
    rw[e2];exact I
end
theorem aA.appendS{P:Program}{t ts bytes ty e n c:Nat}{a:Xa}{cs:Xb}{H:aC}{L:List aD}(T:SlT P t e 1 bytes)(f:P.underlying ts=some .string){s:Eq}{K:KQ}(h:aA H L)(i:Nat)(v:aS i L=slA e 1 a n c cs)
  (hb:(n+s.size)*bytes<=140737488355328) (u:n+s.size<=140737488355328)
  (k:∀b d H',aA H' (put i (slA e 1 b (n+s.size) d (cs++(gk s).map U8)) L)->K (.slice b (n+s.size) d) H') :
  bS P (Builtin.append_ #[t,ts] ty #[.slice a n c,.string s]) H K:=by
 have j:=h.foc i;rw[v]at j;exact Oa T f j hb u λb d H' m=>k b d H' (aA.back m)
def tw(P:Program)(e:TypeId)(xs ys:Xb):List Nat->Option Bool
 | []=>some true
 | i::r=>match aI xs i,aI ys i with
  | some a,some b=>if iR (P.underlying e) a&&iR (P.underlying e) b then
    match vp a b,tw P e xs ys r with
    | some p,some s=>some (p&&s)
    | _,_=>none
   else none
  | _,_=>none
def arrEqB(P:Program)(t:TypeId)(xs ys:Xb):Option Bool:=
 match P.underlying t with
 | some (.array n e)=>if P.cellsOf e=1/\P.eqGuardType P.depth t=false/\(P.info? e).isSome=true then tw P e xs ys (List.range n) else none
 | _=>none
theorem Ec{P:Program}{w:World}{e:TypeId}{xs ys:Xb}(d:Nat):∀{is:List Nat} {r:Bool},tw P e xs ys is=some r->(Op.eqItems (d+1) e 1 ⟨xs⟩ ⟨ys⟩ is).run P w=.ok r w
 | [],r,h=>by simp[tw]at h;subst h;simp[Op.eqItems]
 | i::is,r,h=>by
  simp only[tw]at h
  split at h
  .rename_i a b j f
   split at h
   .rename_i c;simp only[V4]at c
    split at h
    .rename_i r1 s k hs
     cases h
     simp only[Op.eqItems,Wn,Sem.run_bind,tu c.1 j,tu c.2 f,Result.andThen_ok,DN c.1 c.2 k]
     cases r1
     .simp
     .simp [Ec d hs]
    .cases h
   .cases h
  .cases h
theorem tz{P:Program}{t:TypeId}{xs ys:Xb}{r:Bool}(h:arrEqB P t xs ys=some r):fH P .eql t (.agg ⟨xs⟩) (.agg ⟨ys⟩) r/\fH P .neq t (.agg ⟨xs⟩) (.agg ⟨ys⟩) (!r):=by
 unfold arrEqB at h
 split at h
 .rename_i n e f
  split at h
  .rename_i a;obtain⟨i,hi⟩:=WY.1 a.2.2;have d:∀w,(Op.equalIn 10000 t (.agg ⟨xs⟩) (.agg ⟨ys⟩)).run P w=.ok r w:=by
    intro w;show (Op.equalIn (9998+1+1) t (.agg ⟨xs⟩) (.agg ⟨ys⟩)).run P w=.ok r w;generalize 9998=n;rw[run_equalIn_array w (n+1) ⟨xs⟩ ⟨ys⟩ f hi,a.1];exact Ec n h
   constructor
   .intro c b w;simp only[Sem.run_bind,run_eqGuard_agg w .eql t c b ⟨xs⟩ ⟨ys⟩ a.2.1,Result.andThen_ok,run_eql_struct,d]
   .intro c b w;simp only[Sem.run_bind,run_eqGuard_agg w .neq t c b ⟨xs⟩ ⟨ys⟩ a.2.1,Result.andThen_ok,run_neq_struct,d]
  .cases h
 .cases h
open Go Go.ChangeShapes Go.WideShapes Go.ChangeAt Go.RowKit
section
variable {H:Type}{enc:TypeId×Value->H}{P:Program}
theorem Ob{f:Func}{s:ChangeSpec}{apart fresh e i:Bool}{W m:World}{args:Array Value}{v:Value}{ds gs:List (DataW H)}{a pa pv:List MemPlace}
  (w:DataW.Whole enc P f.params.toList s.vars apart W args.toList ds gs a)
  (h:∀(b:Nat) (k:Nat->Bool) (hd:Bool),DataW.TrodAll enc P m b k hd f.resultTypes.toList (v.resultList f.resultTypes.size) (s.fn H (ds++gs)).results [])
  (d:∀k:Nat->Bool,(∀p∈a,k p.block=true)->DataW.TrodAll enc P m 0 k true f.params.toList args.toList (s.fn H (ds++gs)).args pa)
  (c:∀k:Nat->Bool,(∀p∈a,k p.block=true)->DataW.TrodVars enc P m k s.vars (s.fn H (ds++gs)).vars pv)
  (A:a=pa++pv) (hb:Below W.heap.size W m)
  (y:∀(j:Nat) (t:TypeId) (r:Value),f.resultTypes[j]?=some t->(v.resultList f.resultTypes.size)[j]?=some r->Value.okWide P m .any 0 t r) :
  s.post enc P f apart fresh e i W args v m:=by
 have x:∀p∈a,p.block<W.heap.size:=λp u=>w.lt p u
 have hold:∀p∈a,(λb=>decide (b<W.heap.size)) p.block=true:=λp u=>by grind
 refine⟨ds,gs,a,[],pa,pv,w,h _ _ _,d _ hold,c _ hold,World.keptBut_mono (λp u=>⟨u,?_⟩) (hb.frame (·∈a)),λ_=>?_⟩
 .grind
 .obtain⟨_,_,_,_,_,B,C⟩:=w;refine⟨y,_,_,([]++pa)++pv,⟨[]++pa,pv,trodAll_append (d _ (λ_ _=>rfl)) (h _ _ _),c _ (λ_ _=>rfl),rfl,?_,?_⟩,?_⟩
  .intro b off u;have n:MemPlace.cell b off∈a:=by grind
   rw[hb.frozen (x _ n)];exact B b off n
  .grind
  grind
theorem Ed(f:laidOutB P=true){W c:World}(hb:Below W.heap.size W c){e:Nat->Bool}:∀{ts:List TypeId} {vs:Xb} {ds:List (DataW H)} {ps:List MemPlace},(∀t∈ts,P.readableRec t=true/\t<P.types.size)->
  DataW.TrodAll enc P W 0 (λ_=>true) true ts vs ds ps->(∀x∈ps,x.block<W.heap.size)->(∀x∈ps,e x.block=true)->DataW.TrodAll enc P c 0 e true ts vs ds ps
 | [],[],[],_,_,h,_,_=>h
 | [],[],_::_,_,_,h,_,_=>h.elim
 | [],_::_,_,_,_,h,_,_=>h.elim
 | _::_,[],_,_,_,h,_,_=>h.elim
 | _::_,_::_,[],_,_,h,_,_=>h.elim
 | t::ts,v::vs,d::ds,ps,hr,h,hlt,hsp=>by
  obtain⟨p,q,k,j,rfl⟩:=h;have b:=hr t (by simp);exact⟨p,q,Go.WideElems.Trod_stays f b.1 b.2 k (λx a=>hb.same (hlt x (by simp[a]))) (λx a=>hsp x (by simp[a])),Ed f hb (λt i=>hr t (by simp[i])) j (λx a=>hlt x (by simp[a])) (λx a=>hsp x (by simp[a])),rfl⟩
theorem Oc{w a:World}(g:cV w.heap a.heap)(r:bR w a):Below w.heap.size w a:=⟨r.os,r.tape,r.output,g.size,λk b=>g k b⟩
theorem law_post(n:laidOutB P=true){w:FuncId}{f:Func}{s:ChangeSpec}{apart fresh c j:Bool}{W:World}{args:Array Value}{ds gs:List (DataW H)}{d:List MemPlace}{G:TypeId}
  (E:DataW.Whole enc P f.params.toList s.vars apart W args.toList ds gs d) (b:s.vars=[]) (i:f.resultTypes=#[G]) (a:P.underlying G=some .bool)
  (m:(s.fn H (ds++gs))={ results:=[.lit (.bool true)],args:=ds }) (C:f.params.toList.all (λt=>P.readableRec t&&decide (t<P.types.size))=true)
  (J:gU P w args W.heap λv H'=>v=.bool true/\cV W.heap H') :
  Calls P w args W λe F=>∃v,e=.returned v/\s.post enc P f apart fresh c j W args v F:=by
 refine (J.at W rfl).mono λe F I=>?_
 cases e <;> simp only[Fin]at I
 obtain⟨k,rfl,M⟩:=I;have hb:=Oc M k;refine⟨_,rfl,?_⟩;have u:=E;obtain⟨p,q,O,D,y,N,K⟩:=E;rw[b]at D;obtain⟨rfl,rfl⟩:=trodVars_none D;have h:∀t∈f.params.toList,P.readableRec t=true/\t<P.types.size:=λt R=>by
  grind
 refine Ob (pa:=p) (pv:=[]) u (λ_ _ _=>?_) (λL B=>?_) (λL _=>?_) y hb (ok_one i rfl (okWide_bool_mk a _))
 .rw [m,i];exact trodAll_cons_mk (shut_bool a _) trodAll_mk0
 .rw [m];have A:∀x∈p,x.block<W.heap.size:=λx Q=>u.lt x (by grind)
  exact Ed n hb h O A (λx Q=>B x (by grind))
 .rw [b,m];rfl
end
def jI{H:Type}(enc:TypeId×Value->H)(P:Program)(W:World)(t:TypeId)(cs:Xb):Prop:=∃fuel x,DataW.trod enc P W 0 (λ_=>true) true fuel t cs=some x
section
variable {H:Type}{enc:TypeId×Value->H}{P:Program}{W:World}
theorem reads_int{t:TypeId}{k:IntKind}{cs:Xb}(a:P.underlying t=some (.int k))(h:jI enc P W t cs):∃n,cs=[.int k n]/\k.min<=n/\n<=k.max:=by
 obtain⟨fuel,x,h⟩:=h;obtain⟨n,c,_,b⟩:=DataW.trod_int a h;simp only[Lit.wf,V4,V5]at b
 grind
theorem yC{t:TypeId}{cs:Xb}(a:P.underlying t=some .string)(h:jI enc P W t cs):∃s:Eq,cs=[.string s]/\s.size<=maxLen:=by
 obtain⟨fuel,x,h⟩:=h
 grind [DataW.trod_string]
theorem yD{t:TypeId}{fs:Array Field}{cs:Xb}(d:P.underlying t=some (.struct fs))(h:jI enc P W t cs) :
  cs.length=P.cellsOf t/\∀f∈fs.toList,jI enc P W f.type ((cs.drop f.offset).take (P.cellsOf f.type)):=by
 obtain⟨fuel,x,h⟩:=h;obtain⟨xs,n,_,_,e,k,c⟩:=DataW.trod_struct d h;refine⟨e,λf j=>?_⟩
 obtain⟨i,hi⟩:=List.getElem?_of_mem j;have a:fs[i]?=some f:=by grind
 have b:i<xs.length:=by grind
 have:=c i f a;rw[List.getElem?_eq_getElem b]at this;exact⟨n,_,this⟩
theorem Ee{α β:Type}{f:α->Option β}:∀{l:List α} {r:List β},l.mapM f=some r->r.length=l.length/\∀(i:Nat) x,l[i]?=some x->f x=r[i]?
 | [],r,h=>by grind
 | a::l,r,h=>by
  rw[List.mapM_cons]at h
  cases hf:f a with
  | none=>simp[hf]at h
  | some b=>
   cases hg:l.mapM f with
   | none=>simp[hf,hg]at h
   | some bs=>
    simp[hf,hg]at h;subst h;obtain⟨e,d⟩:=Ee hg;refine⟨by simp[e],λi x c=>?_⟩
    cases i with
    | zero=>simp at c;subst c;simpa using hf
    | succ i=>simpa using d i x (by simpa using c)
theorem cells?_spec{b:Nat}{a:Addr}{n:Nat}{vs:Xb}(h:W.cells? b a n=some vs):vs.length=n/\∀j v,aI vs j=some v->W.cell? (a.add j)=some v:=by
 grind [World.cells?,Ee,List.length_range,fJ]
theorem cell?_at{a:Addr}{v:Value}(h:W.cell? a=some v):a=⟨a.block,a.off,none⟩/\aM W.heap a.block a.off=some v:=by
 unfold World.cell? at h
 split at h
 .rename_i c x y hb
  split at h
  .cases h
  .rename_i hs;refine⟨?_,by grind [aM]⟩;obtain⟨b,o,s⟩:=a
   simp_all
 .cases h
theorem Od{t e:TypeId}{cs:Xb}(B:P.underlying t=some (.slice e))(hs:0<P.cellsOf e)(h:jI enc P W t cs) :
  ∃a n c,cs=[.slice a n c]/\n<=c/\c<=maxLen/\∀i,i<n->∃vs,jI enc P W e vs/\vs.length=P.cellsOf e/\a=some ⟨aW a,aT a,none⟩/\∀f v,aI vs f=some v->aM W.heap (aW a) (aT a+i*P.cellsOf e+f)=some v:=by
 obtain⟨fuel,x,h⟩:=h
 rcases DataW.trod_slice B h with ⟨A,_⟩|⟨a,len,cap,u,rest,n,_,A,_,hb,D,hm,C,F,_⟩
 .grind
 .have b:∀i,i<len->∃vs,W.cells? 0 (a.add (i*P.cellsOf e)) (P.cellsOf e)=some vs/\jI enc P W e vs:=by
   intro i hi;have y:=F i hi;rw[List.getElem?_eq_getElem (by omega)]at y;obtain⟨vs,j,m⟩:=Option.bind_eq_some_iff.1 y;exact⟨vs,j,n,_,m⟩
  refine⟨some a,len,cap,A,D,hm,λi hi=>?_⟩
  have d:a=⟨a.block,a.off,none⟩:=by
   obtain⟨vs,j,_⟩:=b 0 (by omega);obtain⟨m,w⟩:=cells?_spec j;have k:=w 0 _ (vj (by omega));simp only[WG]at k;have s:(a.add 0).add 0=a:=by simp[Addr.add]
   rw[s]at k;exact (cell?_at k).1
  obtain⟨vs,j,m⟩:=b i hi;obtain⟨w,k⟩:=cells?_spec j;refine⟨vs,m,w,by grind [aW,aT],λf v E=>?_⟩
  have s:=k f v E;rw[d,fu,fu]at s;exact (cell?_at s).2
theorem Oe{α:Type}{n:Nat}{Q:Nat->α->Prop}(h:∀i,i<n->∃x,Q i x):∃xs:List α,xs.length=n/\∀i (hi:i<xs.length),Q i xs[i]:=by
 induction n with
 | zero=>simp_all
 | succ n ih=>
  obtain⟨xs,a,c⟩:=ih λi hi=>h i (by omega)
  obtain⟨x,b⟩:=h n (by omega);refine⟨xs++[x],by simp[a],λi hi=>?_⟩
  by_cases e:i<xs.length
  .rw [List.getElem_append_left e];exact c i e
  .have:i=n:=by grind
   subst this;rw[List.getElem_append_right (by omega)];simp[a];exact b
theorem yE{α:Type}{ec:α->Xb}{Q:α->Prop}{t e sz:TypeId}{cs:Xb}(m:P.underlying t=some (.slice e))(hs:P.cellsOf e=sz)(k:0<sz)(h:jI enc P W t cs)
  (el:∀vs,jI enc P W e vs->vs.length=sz->∃x,vs=ec x/\Q x) (b:∀x,(ec x).length=sz) :
  ∃a c xs,cs=[.slice a xs.length c]/\xs.length<=maxLen/\aN W.heap a (aF ec xs)/\∀x∈xs,Q x:=by
 subst hs;obtain⟨a,n,c,E,D,B,C⟩:=Od m k h;have u:∀i,i<n->∃x:α,Q x/\a=some ⟨aW a,aT a,none⟩/\∀f v,aI (ec x) f=some v->aM W.heap (aW a) (aT a+i*P.cellsOf e+f)=some v:=by
  grind
 obtain⟨xs,H,w⟩:=Oe u;refine⟨a,c,xs,by grind,by omega,λj v s=>?_,λx A=>?_⟩
 .have d:=lI s;rw[dT b]at d;have G:j/P.cellsOf e<xs.length:=Nat.div_lt_of_lt_mul (by grind);have F:j%P.cellsOf e<P.cellsOf e:=W4 _ k;have y:j/P.cellsOf e*P.cellsOf e+j%P.cellsOf e=j:=by grind [Nat.div_add_mod]
  grind [vm]
 .obtain⟨i,hi,rfl⟩:=Wu A;exact (w i hi).1
theorem args_cons{t:TypeId}{ts:List TypeId}{vs:Xb}{ds:List (DataW H)}{ps:List MemPlace}(h:DataW.TrodAll enc P W 0 (λ_=>true) true (t::ts) vs ds ps) :
  ∃v r d a b,vs=v::r/\ds=d::a/\jI enc P W t v.cells.toList/\DataW.TrodAll enc P W 0 (λ_=>true) true ts r a b:=by
 cases vs with
 | nil=>exact h.elim
 | cons v r=>
  cases ds with
  | nil=>exact h.elim
  | cons d a=>
   obtain⟨p,q,⟨fuel,e⟩,c,_⟩:=h;exact⟨v,r,d,a,q,rfl,rfl,⟨fuel,_,e⟩,c⟩
theorem args_nil{vs:Xb}{ds:List (DataW H)}{ps:List MemPlace}(h:DataW.TrodAll enc P W 0 (λ_=>true) true [] vs ds ps):vs=[]:=by
 cases vs with
 | nil=>rfl
 | cons v r=>exact h.elim
end
section
variable {κ α:Type}{kenc:κ->Value}{venc:α->Value}{r:Nat}{m:List (κ×α)}{H:aC}{F:aD}{L:List aD}{P:Program}
variable [DecidableEq κ]{t k e:Nat}{z:α}(T:hD P t k e venc z)(KO:jG P k kenc)
include T KO
theorem Of{x:κ}{K:KQ}(h:aO H (mapA kenc venc r m*F))
  (kk:∀(n:Nat) (O:Obj) H',aO H' (pt r O*F)->
   (∀(M:aD) (H2:aC) (v:α) (J:Unit->aC->Prop),aO H2 (pt r O*M)->(∀G,aO G (mapA kenc venc r (mset x v m)*M)->J () G)->bS P (Instr.entryStore t (.map (some r)) (.int .i64 n) (venc v)) H2 J)->
   K (.tuple #[venc ((aK x m).getD z),.int .i64 n]) H') :
  bS P (Instr.mapEntry t (.map (some r)) (kenc x)) H K:=by
 obtain⟨S,es,a,⟨E,L,C⟩,i,b,R⟩:=mV h;have hb:=R.get;obtain⟨hk,hv⟩:=rp C;have Q:(aL E).Nodup:=(L.map Prod.fst).nodup_iff.2 S;obtain⟨iz,hi,hz⟩:=T.info;refine .mk λw hw=>?_
 subst hw;have h1:=tf (x:=x) Q L
 cases hlook:aK x E with
 | some u=>
  obtain⟨j,hj,W⟩:=getElem?_of_mlook hlook;obtain⟨k,Y,I,U⟩:=hv j x u hj;have y:es[j]?=some k:=by grind
  have h0:j<es.size:=(Array.getElem?_eq_some_iff.1 y).1;have V:es[j]=k:=(Array.getElem?_eq_some_iff.1 y).2;have A:(aK x m).getD z=u:=by grind
  rw[A]at kk;have D:(es.modify j λe=>{ e with key:=kenc x })=es:=by
   apply Array.ext';rw[Array.toList_modify,Go.ChangeMaps.modify_eq_set _ _ _ _ Y];have:({ k with key:=kenc x }:MapEntry)=k:=by rw[<-I]
   grind [Go.WideElems.set_self]
  have hm:(es.modify j λe=>{ e with key:=kenc x,val:=venc u })=es:=by
   grind [Array.ext',Array.toList_modify,Go.ChangeMaps.modify_eq_set]
  refine⟨.tuple #[venc u,.int .i64 (k.born:Nat)],_,?_,nP w r (.map es a),kk k.born _ _ (lK R) λM H2 v J s k2=>?_⟩
  .simp [Instr.mapEntry,run_underlying T.und,Go.MapKept.run_getObj_map hb,KO.chk,KO.fnd x (aL E) es.toList w j k hk (by grind) W Y,y,V,I,U,KO.stay,D,Go.MapKept.run_setObj_map _ hb,goInt]
  .refine .mk λw2 B=>?_
   rw[<-B]at s;have f:=s.get;refine⟨(),_,?_,nP w2 r (.map (es.modify j λe=>{ e with key:=kenc x,val:=venc v }) a),k2 _ (vk (D4 S L C i b hj Y) (lK s))⟩
   have d:es.findIdx? (λe=>((e.born:Nat):Int) == ((k.born:Nat):Int))=some j:=by
    grind [Go.WideElems.findIdx_arr,Go.WideElems.findIdx_born]
   have c:(es.modify j λe=>{ e with val:=venc v })=es.modify j λe=>{ e with key:=kenc x,val:=venc v }:=by
    grind [Array.ext',Array.toList_modify,Go.ChangeMaps.modify_eq_set]
   simp[Instr.entryStore,Go.MapKept.run_getObj_map f,asInt,asIntOf,d,c,Go.MapKept.run_setObj_map _ f]
 | none=>
  have N:x∉aL E:=eB.1 hlook;have A:(aK x m).getD z=z:=by grind
  rw[A]at kk;have Z:=λv:α=>D5 (v:=v) S L C i b hlook
  refine⟨.tuple #[venc z,.int .i64 (a:Nat)],_,?_,nP w r (.map (es.push { key:=kenc x,val:=venc z,born:=a }) (a+1)),kk a _ _ (lK R) λM H2 v J s k2=>?_⟩
  .simp [Instr.mapEntry,run_underlying T.und,Go.MapKept.run_getObj_map hb,KO.chk,KO.non x (aL E) es.toList w hk N,zeroValue,typeInfo,hi,hz,Go.MapKept.run_setObj_map _ hb,goInt]
  .refine .mk λw2 B=>?_
   rw[<-B]at s;have f:=s.get;refine⟨(),_,?_,nP w2 r (.map (es.push { key:=kenc x,val:=venc v,born:=a }) (a+1)),k2 _ (vk (Z v) (lK s))⟩;have d:(es.push { key:=kenc x,val:=venc z,born:=a }).findIdx? (λe=>((e.born:Nat):Int) == ((a:Nat):Int))=some es.size:=by
    rw[Go.WideElems.findIdx_arr];exact Go.WideElems.findIdx_born (Z z).2.2.1 (j:=es.size) (e0:={ key:=kenc x,val:=venc z,born:=a }) (by simp)
   have c:(es.push { key:=kenc x,val:=venc z,born:=a }).modify es.size (λe=>{ e with val:=venc v })=es.push { key:=kenc x,val:=venc v,born:=a }:=by
    grind [Array.ext',Array.toList_modify,Array.toList_push,Array.length_toList,Go.WideElems.modify_last]
   simp[Instr.entryStore,Go.MapKept.run_getObj_map f,asInt,asIntOf,d,c,Go.MapKept.run_setObj_map _ f]
theorem aA.mp_entry2{x:κ}{K:KQ}(h:aA H (mapA kenc venc r m::L))
  (kk:∀(n:Nat) (O:Obj) H',aA H' (pt r O::L)->
   (∀(L':List aD) (H2:aC) (v:α) (b:Unit->aC->Prop),aA H2 (pt r O::L')->(∀a,aA a (mapA kenc venc r (mset x v m)::L')->b () a)->bS P (Instr.entryStore t (.map (some r)) (.int .i64 n) (venc v)) H2 b)->
   K (.tuple #[venc ((aK x m).getD z),.int .i64 n]) H') :
  bS P (Instr.mapEntry t (.map (some r)) (kenc x)) H K:=
 Of T KO h λn O H' c hs=>kk n O H' c λL' H2 v b d k2=>hs (star L') H2 v b d k2
end
noncomputable def X:bX:={ P:=Tryz.prog,quiet:=[14,93,130,138,147,151,157,161,162,163,182,187,191,193,194,197,199,202,214,220,221,256,277,282,286,289,292,294,297,307,308,313,316,327,329,330,332,334,336,341,342,349,380,385,388,389,398,399,404,413,415,418,437,446,458,473,475,484,485,495,534,536,537],calls:=[2,3,4,5,6,7,8,9,10,11,12,13,14,15,16,17,18,19,20,21,22,23,24,25,26,27,28,29,30,31,32,33,34,35,36,37,38,39,40,41,42,43,44,45,46,47,48,49,50,51,52,53,54,55,56,57,58,59,60,61,62,63,64,65,66,67,68,69,70,71,72,73,74,75,76,77,78,79,80,81,83,84,85,86,87,88,89,90,91,92,93,94,95,96,97,98,99,100,101,102,103,104,105,106,107,108,109,110,111,112,113,114,115,116,117,118,119,120,121,122,123,124,125,126,127,128,129,130,131,132,133,134,135,137,138,139,140,141,142,143,144,145,146,147,148,149,150,151,152,153,154,155,156,157,158,159,160,161,162,163,164,165,166,167,168,169,170,171,172,173,174,175,176,177,178,179,180,181,182,183,184,185,186,187,188,189,190,191,192,193,194,195,196,197,198,199,200,202,203,204,205,206,207,208,209,210,211,212,213,214,215,216,218,220,221,222,223,224,225,226,227,228,229,230,231,232,233,234,235,236,237,238,239,240,241,242,243,244,245,246,247,248,249,250,251,252,253,254,255,256,257,258,259,260,261,262,263,264,265,266,267,268,269,270,271,272,273,274,275,276,277,278,279,280,281,282,283,284,285,286,287,288,289,290,291,292,293,294,295,296,297,298,299,300,301,302,304,305,306,307,308,309,310,311,312,313,314,315,316,317,318,319,320,321,322,323,324,325,326,327,328,330,331,332,333,334,335,336,337,338,339,340,341,342,343,344,345,346,347,348,349,350,351,352,353,354,355,356,357,358,359,360,361,362,363,364,365,366,367,368,369,370,371,372,373,374,375,376,377,378,379,380,381,382,383,384,385,386,387,388,389,390,391,392,393,394,395,396,397,398,399,400,401,402,403,405,406,407,408,409,410,411,412,413,414,415,416,417,418,419,420,421,422,423,424,425,426,427,428,429,430,431,432,433,434,435,436,437,438,439,440,441,442,443,444,445,446,447,448,449,450,451,452,453,454,455,456,457,458,459,460,461,462,463,464,465,466,467,468,469,470,471,472,473,474,475,476,477,478,479,480,481,482,483,484,485,486,487,488,489,490,491,492,493,494,495,496,497,498,499,500,501,502,503,504,505,506,507,508,509,510,511,512,513,514,515,516],pan:=[184,186,188,189,234,235,236,237,238,239,241,243,250,340],ext:=[404,329] }
theorem X_P:X.P=Tryz.prog:=rfl
theorem vx:X.P.follows .mixedOrders=true:=by kernel_rfl
theorem X_all:X.calls.all (ve X.P)=true:=by kernel_rfl
theorem vy:∀f,bK f X.calls=true->fq X.P f:=N0 X_all
abbrev CF:=gU Tryz.prog
abbrev CP:=mM Tryz.prog
abbrev CQ:=bO Tryz.prog
abbrev lQ(a0 a1:Int):Xb:=[aB a0,.int .u64 a1]
abbrev V_u2(a0 a1:Int):Value:=.tuple #[.int .u64 a0,.int .u64 a1]
abbrev A_iu(a0 a1:Int):Value:=.agg ⟨[aB a0,.int .u64 a1]⟩
abbrev gl(a0:Value)(a1:Int):Value:=.tuple #[a0,aB a1]
abbrev r9(H:aC)(b o:Nat)(k:Xb->Prop):Prop:=∃a0 a1,bV H b o ([aB a0,.int .u64 a1])/\k ([aB a0,.int .u64 a1])
abbrev ID(c:Prop)[Decidable c](p q:Prop):Prop:=IF (decide c) p q
abbrev aQ(H:aC)(b o:Nat)(k:Int->Prop):Prop:=∃a0,aM H b o=some (aB a0)/\k a0
abbrev rd_u(H:aC)(b o:Nat)(k:Int->Prop):Prop:=∃a0,aM H b o=some (.int .u64 a0)/\k a0
abbrev L_v2(a0 a1:Value):Xb:=[a0,a1]
abbrev kU:Xb:=[aB 0,aB 0,.int .u64 0,aB 0,aB 0,aB 0,aB 0]++bU .i64 Z0 65 0
abbrev tA(a0 a1 a2 a3 a4 a5 a6:Int)(a7:Nat->Int):Xb:=[aB a0,aB a1,.int .u64 a2,aB a3,aB a4,aB a5,aB a6]++bU .i64 a7 65 0
abbrev eQ:=Int->aC->Prop
abbrev A_is(a0:Int)(a1:Eq):Value:=.agg ⟨[aB a0,.string a1]⟩
abbrev rA(a0 a1 a2 a3 a4 a5 a6:Int)(a7:Nat->Int):Value:=.agg ⟨[aB a0,aB a1,.int .u64 a2,aB a3,aB a4,aB a5,aB a6]++bU .i64 a7 65 0⟩
abbrev lR(a0:Value)(a1:Bool):Value:=.tuple #[a0,.bool a1]
abbrev hZ(H:aC)(b o:Nat)(k:Option Nat->Prop):Prop:=∃a0,aM H b o=some (.map a0)/\k a0
abbrev pQ:=Int->Int->aC->Prop
abbrev tB:=Int->Int->aC->Nat
abbrev yF(a0 a1:Nat)(a2 a3:Int)(a4:Eq):Xb:=[PA a0 a1,aB a2,aB a3,.string a4]
abbrev V_i2(a0 a1:Int):Value:=.tuple #[aB a0,aB a1]
abbrev L_u3(a0 a1 a2:Int):Xb:=[.int .u64 a0,.int .u64 a1,.int .u64 a2]
abbrev L_u2(a0 a1:Int):Xb:=[.int .u64 a0,.int .u64 a1]
abbrev IX(i n:Int):Prop:=0<=i/\i<n
abbrev IA(i n:Int)(a:Xa)(k:Nat->Nat->Prop):Prop:=(0<=i/\i<n)/\∃b o:Nat,a=some ⟨b,o,none⟩/\k b o
abbrev dt(H:aC)(b o:Nat)(k:Xa->Nat->Nat->Prop):Prop:=∃a0 a1 a2,aM H b o=some (.slice a0 a1 a2)/\k a0 a1 a2
abbrev fM(a0 a1:Int):Xb:=[aB a0,aB a1]
abbrev AP(ts:Array Nat)(t:Nat)(l:Xb)(H:aC)(k:Xa->Nat->Nat->aC->Prop):Prop:=bS Tryz.prog (Builtin.append_ ts t ⟨l⟩) H λu H'=>∃a n c,u=.slice a n c/\k a n c H'
abbrev fO(a0:Xa)(a1 a2:Nat)(a3:Xa)(a4 a5:Nat):Xb:=[.slice a0 a1 a2,.slice a3 a4 a5]
abbrev gd_i(c:Prop)(H:aC)(b o:Nat)(k:Int->Prop):Prop:=∃a0,(c->aM H b o=some (aB a0))/\k a0
abbrev gd_l(c:Prop)(H:aC)(b o:Nat)(k:Xa->Nat->Nat->Prop):Prop:=∃a0 a1 a2,(c->aM H b o=some (.slice a0 a1 a2))/\k a0 a1 a2
abbrev L_ai2(a0 a1:Nat)(a2 a3:Int):Xb:=[PA a0 a1,aB a2,aB a3]
abbrev dU:=aC->Prop
abbrev rd_b(H:aC)(b o:Nat)(k:Bool->Prop):Prop:=∃a0,aM H b o=some (.bool a0)/\k a0
abbrev cv(H:aC)(b o:Nat)(k:Xa->Prop):Prop:=∃a0,aM H b o=some (.pointer a0)/\k a0
abbrev L_is(a0:Int)(a1:Eq):Xb:=[aB a0,.string a1]
abbrev yG(a0:Int)(a1:Eq)(a2 a3 a4 a5 a6 a7 a8:Int)(a9:Nat->Int):Xb:=[aB a0,.string a1,aB a2,aB a3,.int .u64 a4,aB a5,aB a6,aB a7,aB a8]++bU .i64 a9 65 0
abbrev IN(c:Prop)[Decidable c](p q:Prop):Prop:=IF (!decide c) p q
abbrev yH:=Nat->Nat->Int->aC->Prop
abbrev L_vb(a0:Value)(a1:Bool):Xb:=[a0,.bool a1]
abbrev Ef(f:FuncId)(l:Xb)(H:aC)(k:Xb->Int->aC->Prop):Prop:=CF f ⟨l⟩ H λu H'=>∃a0 a1 a2 a3 a4 a5 a6 a7 a8,u=.tuple #[.agg ⟨[aB a0,aB a1,.int .u64 a2,aB a3,aB a4,aB a5,aB a6]++bU .i64 a7 65 0⟩,aB a8]/\k ([aB a0,aB a1,.int .u64 a2,aB a3,aB a4,aB a5,aB a6]++bU .i64 a7 65 0) a8 H'
abbrev yI(H:aC)(b o:Nat)(k:Xb->Prop):Prop:=∃a0 a1,bV H b o ([aB a0,.string a1])/\k ([aB a0,.string a1])
abbrev Eg:Xb:=[aB 0,.string (⟨#[]⟩:Eq),aB 0,aB 0,.int .u64 0,aB 0,aB 0,aB 0,aB 0]++bU .i64 Z0 65 0
abbrev MU(t:Nat)(m x v:Value)(H:aC)(k:aC->Prop):Prop:=bS Tryz.prog (Instr.mapUpdate t m x v) H λ_ H'=>k H'
abbrev mX(H:aC)(b o:Nat)(k:Xb->Prop):Prop:=∃a0 a1 a2 a3 a4 a5 a6 a7,bV H b o ([aB a0,aB a1,.int .u64 a2,aB a3,aB a4,aB a5,aB a6]++bU .i64 a7 65 0)/\k ([aB a0,aB a1,.int .u64 a2,aB a3,aB a4,aB a5,aB a6]++bU .i64 a7 65 0)
abbrev yJ(H:aC)(b o:Nat)(k:Xb->Prop):Prop:=∃a0 a1 a2 a3 a4 a5 a6 a7 a8 a9,bV H b o ([aB a0,.string a1,aB a2,aB a3,.int .u64 a4,aB a5,aB a6,aB a7,aB a8]++bU .i64 a9 65 0)/\k ([aB a0,.string a1,aB a2,aB a3,.int .u64 a4,aB a5,aB a6,aB a7,aB a8]++bU .i64 a9 65 0)
abbrev jJ:=Int->aC->Nat
abbrev nS:=(Xa)->Nat->Nat->Int->aC->Prop
abbrev nT:=(Xa)->Nat->Nat->Int->aC->Nat
abbrev C_b(f:FuncId)(l:Xb)(H:aC)(k:Bool->aC->Prop):Prop:=CF f ⟨l⟩ H λu H'=>∃a0,u=.bool a0/\k a0 H'
abbrev C_f(f:FuncId)(l:Xb)(H:aC)(k:FuncId->Xb->aC->Prop):Prop:=CF f ⟨l⟩ H λu H'=>∃a0 a1,u=.func (.func a0) #[] ⟨a1⟩/\k a0 a1 H'
abbrev kV(a0 a1:Nat)(a2:Int):Xb:=[PA a0 a1,aB a2]
abbrev A_ib3(a0:Int)(a1 a2 a3:Bool):Value:=.agg ⟨[aB a0,.bool a1,.bool a2,.bool a3]⟩
abbrev L_iv(a0:Int)(a1:Value):Xb:=[aB a0,a1]
abbrev L_piv(a0:Xa)(a1:Int)(a2:Value):Xb:=[.pointer a0,aB a1,a2]
abbrev C_i(f:FuncId)(l:Xb)(H:aC)(k:Int->aC->Prop):Prop:=CF f ⟨l⟩ H λu H'=>∃a0,u=aB a0/\k a0 H'
abbrev J_n4HP:=Nat->Nat->Nat->Nat->aC->Prop
abbrev Q_b(f:FuncId)(l:Xb)(H:aC)(k:Bool->Prop):Prop:=∃a0,CQ f ⟨l⟩ H (.bool a0)/\k a0
abbrev C_l(f:FuncId)(l:Xb)(H:aC)(k:Xa->Nat->Nat->aC->Prop):Prop:=CF f ⟨l⟩ H λu H'=>∃a0 a1 a2,u=.slice a0 a1 a2/\k a0 a1 a2 H'
abbrev V_ni(a0:Int):Value:=.tuple #[.slice none 0 0,aB a0]
abbrev vz:Xb:=[aB 0,aB 0,.string (⟨#[]⟩:Eq),.slice none 0 0]
abbrev rB(H:aC)(b o:Nat)(k:Xb->Prop):Prop:=∃a0 a1 a2 a3 a4 a5,bV H b o ([aB a0,aB a1,.string a2,.slice a3 a4 a5])/\k ([aB a0,aB a1,.string a2,.slice a3 a4 a5])
abbrev Eh(t:Nat)(m x:Value)(H:aC)(k:Xb->Bool->Prop):Prop:=∃a0 a1 a2 a3 a4 a5,∃th,cZ Tryz.prog (Instr.lookup t m x true) H (.tuple #[.agg ⟨[aB a0,aB a1,.string a2,.slice a3 a4 a5]⟩,.bool th])/\k ([aB a0,aB a1,.string a2,.slice a3 a4 a5]) th
abbrev V_li(a0:Xa)(a1 a2:Nat)(a3:Int):Value:=.tuple #[.slice a0 a1 a2,aB a3]
abbrev L_ail(a0 a1:Nat)(a2:Int)(a3:Xa)(a4 a5:Nat):Xb:=[PA a0 a1,aB a2,.slice a3 a4 a5]
abbrev L_i4(a0 a1 a2 a3:Int):Xb:=[aB a0,aB a1,aB a2,aB a3]
abbrev A_i4(a0 a1 a2 a3:Int):Value:=.agg ⟨[aB a0,aB a1,aB a2,aB a3]⟩
abbrev A_i2(a0 a1:Int):Value:=.agg ⟨[aB a0,aB a1]⟩
abbrev rC(H:aC)(b o:Nat)(k:Xb->Prop):Prop:=∃a0 a1,bV H b o ([aB a0,aB a1])/\k ([aB a0,aB a1])
abbrev vA(f:FuncId)(l:Xb)(H:aC)(k:Int->Int->aC->Prop):Prop:=CF f ⟨l⟩ H λu H'=>∃a0 a1,u=.tuple #[aB a0,aB a1]/\k a0 a1 H'
abbrev pR(H:aC)(b o:Nat)(k:Xb->Prop):Prop:=∃a0 a1 a2 a3,bV H b o ([aB a0,aB a1,aB a2,aB a3])/\k ([aB a0,aB a1,aB a2,aB a3])
abbrev L_vi2(a0:Value)(a1 a2:Int):Xb:=[a0,aB a1,aB a2]
abbrev L_in(a0:Int):Xb:=[aB a0,.slice none 0 0]
abbrev L_il(a0:Int)(a1:Xa)(a2 a3:Nat):Xb:=[aB a0,.slice a1 a2 a3]
abbrev A_il(a0:Int)(a1:Xa)(a2 a3:Nat):Value:=.agg ⟨[aB a0,.slice a1 a2 a3]⟩
abbrev yK(H:aC)(b o:Nat)(k:Xb->Prop):Prop:=∃a0 a1 a2 a3,bV H b o ([aB a0,.slice a1 a2 a3])/\k ([aB a0,.slice a1 a2 a3])
abbrev gz(a0:Xa)(a1:Int):Xb:=[.pointer a0,aB a1]
abbrev BD(l h n:Int):Prop:=0<=l/\l<=h/\h<=n
abbrev Q_i(f:FuncId)(l:Xb)(H:aC)(k:Int->Prop):Prop:=∃a0,CQ f ⟨l⟩ H (aB a0)/\k a0
abbrev C_p(f:FuncId)(l:Xb)(H:aC)(k:Xa->aC->Prop):Prop:=CF f ⟨l⟩ H λu H'=>∃a0,u=.pointer a0/\k a0 H'
abbrev C_Tli_(f:FuncId)(l:Xb)(H:aC)(k:Xa->Nat->Nat->Int->aC->Prop):Prop:=CF f ⟨l⟩ H λu H'=>∃a0 a1 a2 a3,u=.tuple #[.slice a0 a1 a2,aB a3]/\k a0 a1 a2 a3 H'
abbrev gA(H:aC)(b o:Nat)(k:Eq->Prop):Prop:=∃a0,aM H b o=some (.string a0)/\k a0
abbrev V_ri(a0 a1:Int):Value:=.tuple #[.int .i32 a0,aB a1]
abbrev J_Hn:=aC->Nat
abbrev lS(a0 a1:Eq):Xb:=[.string a0,.string a1]
abbrev jK(a0 a1 a2:Int):Xb:=[aB a0,aB a1,aB a2]
abbrev ZL_ib3:Xb:=[aB 0,.bool false,.bool false,.bool false]
abbrev L_ib3(a0:Int)(a1 a2 a3:Bool):Xb:=[aB a0,.bool a1,.bool a2,.bool a3]
abbrev ZL_i4:Xb:=[aB 0,aB 0,aB 0,aB 0]
abbrev Ei(f:FuncId)(l:Xb)(H:aC)(k:Xb->Bool->aC->Prop):Prop:=CF f ⟨l⟩ H λu H'=>∃a0 a1 a2 a3 a4,u=.tuple #[.agg ⟨[aB a0,.bool a1,.bool a2,.bool a3]⟩,.bool a4]/\k ([aB a0,.bool a1,.bool a2,.bool a3]) a4 H'
abbrev LK_p(t:Nat)(m x:Value)(H:aC)(k:Xa->Prop):Prop:=∃a0,cZ Tryz.prog (Instr.lookup t m x false) H (.pointer a0)/\k a0
abbrev A_i3(a0 a1 a2:Int):Value:=.agg ⟨[aB a0,aB a1,aB a2]⟩
abbrev L_pil(a0:Xa)(a1:Int)(a2:Xa)(a3 a4:Nat):Xb:=[.pointer a0,aB a1,.slice a2 a3 a4]
abbrev L_vi(a0:Value)(a1:Int):Xb:=[a0,aB a1]
abbrev tC(a0 a1 a2 a3 a4 a5 a6 a7 a8 a9 a10 a11 a12 a13:Int)(a14:Eq)(a15 a16 a17 a18 a19 a20 a21:Int)(a22:Nat->Int):Xb:=[aB a0,aB a1,aB a2,aB a3,aB a4,aB a5,aB a6,aB a7,aB a8,aB a9,aB a10,aB a11,aB a12,aB a13,.string a14,aB a15,aB a16,.int .u64 a17,aB a18,aB a19,aB a20,aB a21]++bU .i64 a22 65 0
abbrev Ej(H:aC)(b o:Nat)(k:Xb->Prop):Prop:=∃a0 a1 a2,bV H b o ([aB a0,aB a1,aB a2])/\k ([aB a0,aB a1,aB a2])
abbrev yL(a0 a1 a2 a3 a4 a5 a6 a7 a8 a9 a10:Int)(a11:Xa)(a12 a13:Nat):Xb:=[aB a0,aB a1,aB a2,aB a3,aB a4,aB a5,aB a6,aB a7,aB a8,aB a9,aB a10,.slice a11 a12 a13]
abbrev L_pi2(a0:Xa)(a1 a2:Int):Xb:=[.pointer a0,aB a1,aB a2]
abbrev yM(f:FuncId)(l:Xb)(H:aC)(k:Xb->Int->aC->Prop):Prop:=CF f ⟨l⟩ H λu H'=>∃a0 a1 a2,u=.tuple #[.agg ⟨[aB a0,aB a1]⟩,aB a2]/\k ([aB a0,aB a1]) a2 H'
abbrev yN(a0 a1 a2 a3 a4 a5 a6 a7 a8 a9 a10:Int)(a11:Xa)(a12 a13:Nat):Value:=.agg ⟨[aB a0,aB a1,aB a2,aB a3,aB a4,aB a5,aB a6,aB a7,aB a8,aB a9,aB a10,.slice a11 a12 a13]⟩
abbrev L_av(a0 a1:Nat)(a2:Value):Xb:=[PA a0 a1,a2]
abbrev V_v2(a0 a1:Value):Value:=.tuple #[a0,a1]
abbrev El:=(Xa)->Nat->Nat->aC->Prop
abbrev J_n2biHP:=Nat->Nat->Bool->Int->aC->Prop
abbrev L_pi3(a0:Xa)(a1 a2 a3:Int):Xb:=[.pointer a0,aB a1,aB a2,aB a3]
abbrev Em(f:FuncId)(l:Xb)(H:aC)(k:Xb->Bool->Int->aC->Prop):Prop:=CF f ⟨l⟩ H λu H'=>∃a0 a1 a2 a3 a4,u=.tuple #[.agg ⟨[aB a0,aB a1,aB a2]⟩,.bool a3,aB a4]/\k ([aB a0,aB a1,aB a2]) a3 a4 H'
abbrev J_n2HP:=Nat->Nat->aC->Prop
abbrev yO(f:FuncId)(l:Xb)(H:aC)(k:Xb->Bool->aC->Prop):Prop:=CF f ⟨l⟩ H λu H'=>∃a0 a1 a2 a3,u=.tuple #[.agg ⟨[aB a0,aB a1,aB a2]⟩,.bool a3]/\k ([aB a0,aB a1,aB a2]) a3 H'
abbrev L_a2(a0 a1 a2 a3:Nat):Xb:=[PA a0 a1,PA a2 a3]
abbrev P_i(f:FuncId)(l:Xb)(H:aC)(k:Int->aC->Prop)(kp:KQ):Prop:=CP f ⟨l⟩ H (λu H'=>∃a0,u=aB a0/\k a0 H') kp
abbrev P_T_(f:FuncId)(l:Xb)(H:aC)(k:aC->Prop)(kp:KQ):Prop:=CP f ⟨l⟩ H (λu H'=>u=.tuple #[]/\k  H') kp
abbrev C_Tpi_(f:FuncId)(l:Xb)(H:aC)(k:Xa->Int->aC->Prop):Prop:=CF f ⟨l⟩ H λu H'=>∃a0 a1,u=.tuple #[.pointer a0,aB a1]/\k a0 a1 H'
abbrev L_sy(a0:Eq)(a1:Int):Xb:=[.string a0,.int .u8 a1]
abbrev V_sb(a0:Eq)(a1:Bool):Value:=.tuple #[.string a0,.bool a1]
abbrev V_s2b(a0 a1:Eq)(a2:Bool):Value:=.tuple #[.string a0,.string a1,.bool a2]
abbrev J_bHP:=Bool->aC->Prop
abbrev JF(c p q:Prop):Prop:=(c->p)/\(¬c->q)
abbrev A_s2(a0 a1:Eq):Value:=.agg ⟨[.string a0,.string a1]⟩
abbrev A_Vi65_(a0:Nat->Int):Value:=.agg ⟨bU .i64 a0 65 0⟩
abbrev C_T_(f:FuncId)(l:Xb)(H:aC)(k:aC->Prop):Prop:=CF f ⟨l⟩ H λu H'=>u=.tuple #[]/\k  H'
abbrev Eo:Xb:=[aB 0,aB 0,aB 0,aB 0,.bool false,.bool false,.bool false,aB 0,aB 0,aB 0,aB 0]
abbrev L_i4b3i4(a0 a1 a2 a3:Int)(a4 a5 a6:Bool)(a7 a8 a9 a10:Int):Xb:=[aB a0,aB a1,aB a2,aB a3,.bool a4,.bool a5,.bool a6,aB a7,aB a8,aB a9,aB a10]
abbrev Ep(H:aC)(b o:Nat)(k:Xb->Prop):Prop:=∃a0 a1 a2 a3 a4 a5 a6 a7 a8 a9 a10,bV H b o ([aB a0,aB a1,aB a2,aB a3,.bool a4,.bool a5,.bool a6,aB a7,aB a8,aB a9,aB a10])/\k ([aB a0,aB a1,aB a2,aB a3,.bool a4,.bool a5,.bool a6,aB a7,aB a8,aB a9,aB a10])
abbrev NM(H:aC)(k:Nat->aC->Prop):Prop:=∀(b:Nat) (H':aC),b=H.size->H'=H.push (.map #[] 0)->k b H'
abbrev V_ip(a0:Int)(a1:Xa):Value:=.tuple #[aB a0,.pointer a1]
abbrev L_p2i(a0 a1:Xa)(a2:Int):Xb:=[.pointer a0,.pointer a1,aB a2]
abbrev Og(H:aC)(b o:Nat)(k:Int->Int->Int->Int->Int->Int->Int->Int->Int->Int->Int->Int->Int->Int->Int->Xa->Xa->Xa->Option Nat->Xa->Nat->Nat->Prop):Prop:=∃a0 a1 a2 a3 a4 a5 a6 a7 a8 a9 a10 a11 a12 a13 a14 a15 a16 a17 a18 a19 a20 a21,bV H b o ([aB a0,aB a1,aB a2,aB a3,aB a4,aB a5,aB a6,aB a7,aB a8,aB a9,aB a10,aB a11,aB a12,aB a13,aB a14,.pointer a15,.pointer a16,.pointer a17,.map a18,.slice a19 a20 a21])/\k a0 a1 a2 a3 a4 a5 a6 a7 a8 a9 a10 a11 a12 a13 a14 a15 a16 a17 a18 a19 a20 a21
abbrev V_pi(a0:Xa)(a1:Int):Value:=.tuple #[.pointer a0,aB a1]
abbrev L_sl(a0:Eq)(a1:Xa)(a2 a3:Nat):Xb:=[.string a0,.slice a1 a2 a3]
abbrev Er(H:aC)(b o:Nat)(k:Xb->Prop):Prop:=∃a0 a1,bV H b o ([.string a0,.string a1])/\k ([.string a0,.string a1])
abbrev A_sl(a0:Eq)(a1:Xa)(a2 a3:Nat):Value:=.agg ⟨[.string a0,.slice a1 a2 a3]⟩
abbrev rd_y(H:aC)(b o:Nat)(k:Int->Prop):Prop:=∃a0,aM H b o=some (.int .u8 a0)/\k a0
abbrev J_i3HP:=Int->Int->Int->aC->Prop
abbrev J_i3Hn:=Int->Int->Int->aC->Nat
abbrev V_i3(a0 a1 a2:Int):Value:=.tuple #[aB a0,aB a1,aB a2]
abbrev V_pli(a0 a1:Xa)(a2 a3:Nat)(a4:Int):Value:=.tuple #[.pointer a0,.slice a1 a2 a3,aB a4]
abbrev vB(H:aC)(b o:Nat)(k:Xb->Prop):Prop:=∃a0 a1 a2 a3,bV H b o ([.string a0,.slice a1 a2 a3])/\k ([.string a0,.slice a1 a2 a3])
abbrev C_u(f:FuncId)(l:Xb)(H:aC)(k:Int->aC->Prop):Prop:=CF f ⟨l⟩ H λu H'=>∃a0,u=.int .u64 a0/\k a0 H'
abbrev gd_u(c:Prop)(H:aC)(b o:Nat)(k:Int->Prop):Prop:=∃a0,(c->aM H b o=some (.int .u64 a0))/\k a0
abbrev rd_Au3_(H:aC)(b o:Nat)(k:Int->Int->Int->Prop):Prop:=∃a0 a1 a2,bV H b o ([.int .u64 a0,.int .u64 a1,.int .u64 a2])/\k a0 a1 a2
abbrev pS:Xb:=[aB 0,aB 0,aB 0,aB 0,aB 0,aB 0,aB 0,aB 0,aB 0,aB 0,.slice none 0 0,.string (⟨#[]⟩:Eq),.slice none 0 0,.slice none 0 0]
abbrev jj(H:aC)(b o:Nat)(k:Xb->Prop):Prop:=∃a0 a1 a2 a3 a4 a5 a6 a7 a8 a9 a10 a11 a12 a13 a14 a15 a16 a17 a18 a19,bV H b o ([aB a0,aB a1,aB a2,aB a3,aB a4,aB a5,aB a6,aB a7,aB a8,aB a9,.slice a10 a11 a12,.string a13,.slice a14 a15 a16,.slice a17 a18 a19])/\k ([aB a0,aB a1,aB a2,aB a3,aB a4,aB a5,aB a6,aB a7,aB a8,aB a9,.slice a10 a11 a12,.string a13,.slice a14 a15 a16,.slice a17 a18 a19])
abbrev L_va(a0:Value)(a1 a2:Nat):Xb:=[a0,PA a1 a2]
abbrev vC(f:FuncId)(l:Xb)(H:aC)(k:Xb->aC->Prop):Prop:=CF f ⟨l⟩ H λu H'=>∃a0 a1 a2 a3 a4 a5 a6 a7 a8 a9 a10 a11 a12 a13 a14 a15 a16 a17 a18 a19,u=.agg ⟨[aB a0,aB a1,aB a2,aB a3,aB a4,aB a5,aB a6,aB a7,aB a8,aB a9,.slice a10 a11 a12,.string a13,.slice a14 a15 a16,.slice a17 a18 a19]⟩/\k ([aB a0,aB a1,aB a2,aB a3,aB a4,aB a5,aB a6,aB a7,aB a8,aB a9,.slice a10 a11 a12,.string a13,.slice a14 a15 a16,.slice a17 a18 a19]) H'
abbrev L_ai2v(a0 a1:Nat)(a2 a3:Int)(a4:Value):Xb:=[PA a0 a1,aB a2,aB a3,a4]
abbrev yP(a0 a1 a2 a3 a4 a5 a6 a7:Int)(a8:Eq)(a9:Xa)(a10 a11:Nat)(a12:Xa)(a13 a14:Nat):Xb:=[aB a0,aB a1,aB a2,aB a3,aB a4,aB a5,aB a6,aB a7,.string a8,.slice a9 a10 a11,.slice a12 a13 a14]
abbrev vD:Xb:=[.bool false,aB 0,aB 0,.slice none 0 0]
abbrev vE(f:FuncId)(l:Xb)(H:aC)(k:Xb->Int->aC->Prop):Prop:=CF f ⟨l⟩ H λu H'=>∃a0 a1 a2 a3 a4 a5 a6,u=.tuple #[.agg ⟨[.bool a0,aB a1,aB a2,.slice a3 a4 a5]⟩,aB a6]/\k ([.bool a0,aB a1,aB a2,.slice a3 a4 a5]) a6 H'
abbrev yQ(a0 a1 a2 a3 a4 a5 a6 a7:Int)(a8:Eq)(a9:Xa)(a10 a11:Nat)(a12:Xa)(a13 a14:Nat):Value:=.agg ⟨[aB a0,aB a1,aB a2,aB a3,aB a4,aB a5,aB a6,aB a7,.string a8,.slice a9 a10 a11,.slice a12 a13 a14]⟩
abbrev gd_Ai7_(c:Prop)(H:aC)(b o:Nat)(k:Int->Int->Int->Int->Int->Int->Int->Prop):Prop:=∃a0 a1 a2 a3 a4 a5 a6,(c->bV H b o ([aB a0,aB a1,aB a2,aB a3,aB a4,aB a5,aB a6]))/\k a0 a1 a2 a3 a4 a5 a6
abbrev tD(H:aC)(b o:Nat)(k:Xb->Prop):Prop:=∃a0 a1 a2 a3 a4 a5 a6 a7 a8 a9 a10 a11 a12 a13 a14,bV H b o ([aB a0,aB a1,aB a2,aB a3,aB a4,aB a5,aB a6,aB a7,.string a8,.slice a9 a10 a11,.slice a12 a13 a14])/\k ([aB a0,aB a1,aB a2,aB a3,aB a4,aB a5,aB a6,aB a7,.string a8,.slice a9 a10 a11,.slice a12 a13 a14])
abbrev L_al(a0 a1:Nat)(a2:Xa)(a3 a4:Nat):Xb:=[PA a0 a1,.slice a2 a3 a4]
abbrev L_i15(a0 a1 a2 a3 a4 a5 a6 a7 a8 a9 a10 a11 a12 a13 a14:Int):Xb:=[aB a0,aB a1,aB a2,aB a3,aB a4,aB a5,aB a6,aB a7,aB a8,aB a9,aB a10,aB a11,aB a12,aB a13,aB a14]
abbrev A_i15(a0 a1 a2 a3 a4 a5 a6 a7 a8 a9 a10 a11 a12 a13 a14:Int):Value:=.agg ⟨[aB a0,aB a1,aB a2,aB a3,aB a4,aB a5,aB a6,aB a7,aB a8,aB a9,aB a10,aB a11,aB a12,aB a13,aB a14]⟩
abbrev A_i13(a0 a1 a2 a3 a4 a5 a6 a7 a8 a9 a10 a11 a12:Int):Value:=.agg ⟨[aB a0,aB a1,aB a2,aB a3,aB a4,aB a5,aB a6,aB a7,aB a8,aB a9,aB a10,aB a11,aB a12]⟩
abbrev L_i13(a0 a1 a2 a3 a4 a5 a6 a7 a8 a9 a10 a11 a12:Int):Xb:=[aB a0,aB a1,aB a2,aB a3,aB a4,aB a5,aB a6,aB a7,aB a8,aB a9,aB a10,aB a11,aB a12]
abbrev L_sn(a0:Eq):Xb:=[.string a0,.slice none 0 0]
abbrev sI:Sh:=.one (.int .i64)
abbrev sU:Sh:=.one (.int .u64)
abbrev sB:Sh:=.one .bool
abbrev sT:Sh:=.one .str
abbrev sP:Sh:=.one .ptr
abbrev sS:Sh:=.one .slice
abbrev sM:Sh:=.one .map
abbrev sA:Sh:=.one .adr
abbrev Ann.r(a:Ann):Ann:=.seq .reg a
def vcH(X:bX)(f:FuncId)(an:Ann)(args:Xb)(H:aC)(K:KQ):Prop:=match X.P.funcs[f]? with
 | some fn=>vcFun { nxF X fn with nop:=true } fn an args H K
 | none=>False
def vcHP(X:bX)(f:FuncId)(an:Ann)(args:Xb)(H:aC)(K KP:KQ):Prop:=match X.P.funcs[f]? with
 | some fn=>sV (nxF X fn) fn an args H K KP
 | none=>False
def okN(X:bX)(f:FuncId):Bool:=match X.P.funcs[f]? with|some fn=>okF { nxF X fn with nop:=true } fn|none=>true
theorem okN_spec{X:bX}{f:FuncId}(h:okN X f=true){fn:Func}(a:X.P.funcs[f]?=some fn):okF { nxF X fn with nop:=true } fn=true:=by
 unfold okN at h;rw[a]at h;exact h
theorem cL(f:FuncId)(an:Ann){args:Xb}{H:aC}{K:KQ}(h:vcH X f an args H K)(b:okN X f=true:=by kernel_rfl):CF f ⟨args⟩ H K:=by
 unfold vcH at h
 split at h
 case h_2=>exact h.elim
 rename_i fn a;exact Dk (X:={ nxF X fn with nop:=true }) (an:=an) X_P vx vy (X_P▸a) (okN_spec b a) rfl h
theorem cLP(f:FuncId)(an:Ann){args:Xb}{H:aC}{K KP:KQ}(h:vcHP X f an args H K KP)(b:okAt X f=true:=by kernel_rfl):CP f ⟨args⟩ H K KP:=by
 unfold vcHP at h
 split at h
 case h_2=>exact h.elim
 rename_i fn a;exact Ny (X:=nxF X fn) (an:=an) X_P vx vy (X_P▸a) (Dl b a) rfl h
def dA:Nat->Nat->List dj->List Ann->Ann
 | 0,_,_,s=>s.headD .no
 | k+1,n,L,s=>match Nat.mod n 16,s,L with
  | 10,a::s,l::L=>dA k (Nat.div n 16) L (.blkJ l a::s)
  | 11,s,L=>dA k (Nat.div n 16) L (.r (.cond (.r .no) .no)::s)
  | 12,s,L=>dA k (Nat.div n 16) L (.r .no::s)
  | 13,a::s,L=>dA k (Nat.div n 16) L (.seq (.r (.cond (.r .no) .no)) a::s)
  | 1,a::s,L=>dA k (Nat.div n 16) L (.r a::s)
  | 2,a::b::s,L=>dA k (Nat.div n 16) L (.seq a b::s)
  | 3,a::b::s,L=>dA k (Nat.div n 16) L (.cond a b::s)
  | 4,s,L=>dA k (Nat.div n 16) L (.reg::s)
  | 5,a::s,L=>dA k (Nat.div n 16) L (.blk a::s)
  | 6,a::s,l::L=>dA k (Nat.div n 16) L (.loop l a::s)
  | 7,a::b::s,l::L=>dA k (Nat.div n 16) L (.condJ l a b::s)
  | 8,s,l::L=>dA k (Nat.div n 16) L (.regJ l::s)
  | 9,s,L=>dA k (Nat.div n 16) L (.no::s)
  | _,s,_=>s.headD .no
def vcI(X : bX) (f : FuncId) (an : Ann) (args : Xb) (H : aC) (K : Value -> aC -> Prop) : Prop := match X.P.funcs[f]? with
 | some fn => vcFun (nxF X fn) fn an args H K
 | none => False
theorem cFE{f : FuncId}{args : Xb}{H : aC}{K : Value -> aC -> Prop}{C : Prop}(an : Ann)(h : C)(c : vcI X f an args H K = C := by kernel_rfl)(hk : okAt X f = true := by kernel_rfl) : CF f ⟨args⟩ H K := by
 have a := c ▸ h;unfold vcI at a
 split at a
 case h_2 => exact a.elim
 rename_i fn b;exact Dk (X := nxF X fn) (an := an) X_P vx vy (X_P ▸ b) (Dl hk b) rfl a
theorem cE{f : FuncId}{args : Xb}{H : aC}{K : Value -> aC -> Prop}{C : Prop}(n : Nat)(L : List dj)(h : C)(a : vcI X f (dA 999 n L []) args H K = C := by kernel_rfl)(hk : okAt X f = true := by kernel_rfl) : CF f ⟨args⟩ H K := cFE _ h a hk
theorem cN(f : FuncId)(n : Nat)(L : List dj){args : Xb}{H : aC}{K : Value -> aC -> Prop}(h : vcH X f (dA 999 n L []) args H K)(a : okN X f = true := by kernel_rfl) : CF f ⟨args⟩ H K := cL f _ h a
theorem cM(f : FuncId)(n : Nat){args : Xb}{H : aC}{K : Value -> aC -> Prop}(h : vcH X f (dA 999 n [] []) args H K)(a : okN X f = true := by kernel_rfl) : CF f ⟨args⟩ H K := cL f _ h a
theorem cNP(f : FuncId)(n : Nat)(L : List dj){args : Xb}{H : aC}{K KP : Value -> aC -> Prop}(h : vcHP X f (dA 999 n L []) args H K KP)(a : okAt X f = true := by kernel_rfl) : CP f ⟨args⟩ H K KP := cLP f _ h a
theorem cMP(f : FuncId)(n : Nat){args : Xb}{H : aC}{K KP : Value -> aC -> Prop}(h : vcHP X f (dA 999 n [] []) args H K KP)(a : okAt X f = true := by kernel_rfl) : CP f ⟨args⟩ H K KP := cLP f _ h a
section
variable {a b c d e f g i j k a0 a1 a2 a3 a4 a5 a6 a7 a8 a9 b0 b1 b2 b3 b4 b5 b6 b7 b8 b9 c0 c1 c2 c3 c4 c5 c6 c7 c8 c9 d0 d1 d2 d3 d4 d5 d6 d7 d8 d9 e0 e1 e2 e3 e4 e5 e6 e7 e8 e9 f0 f1 f2 f3 f4 f5 f6 f7 f8 f9 g0 g1 g2 g3 g4 g5 g6 g7 g8 g9 i0 i1 i2 i3 i4 i5 i6 i7 i9 k0 k1 k2 k3 k4 k5 k6 k7 k8 k9 m0 m1 m2 m3 m4 m5 m6 m7 m8 m9 n0:Int}{l m n o p q r n1 n2 n3 n4 n5 n6 n7 n8 n9 o0 o1 o2 o3 o4 o5 o6 o7 o8 o9 p0 p1 p2 p3 p4 p5 p6 p7 p8 p9 q0 q1 q2 q3 q4 q5 q6 q7 q8 q9 s0 s1 s2 s3 s4 s5 s6 s7 s8 s9 t0 t1 t2 t3 t4 t5 t6 t7 t8 t9 u0:Nat}{s t u v u1 u2 u3 u4 u5 u6 u7 u9 v0 v1 v2 v3 v4 v5 v6 v7 v8 v9 w0 w1 w2 w3 w4 w5 w6 w7 w8 w9 x0 x1:Xa}{w x x2 x3 x4 x5 x6 x7 x8 x9 z0 z1 z2 z3 z4 z5 z6:Eq}{y z7 z8 z9 aa ab ac ad ae af ag ai aj ak al am:Bool}{z an ao ap aq ar au av aw:Nat->Int}{az ah ba bb bc bd be bf:Value}{bj bk bl bm bn bo bp bq:Xb}{bt bu bv bw bx bz:FuncId}{cb cc cd ce cf cg ci cj ck cl cm cn:Option Nat}{H:aC}{K KP:KQ}
theorem Oh(h :
 ID (a<0) (
 K (.int .u64 (u64.wrap (0-(u64.wrap a)))) H) (
 K (.int .u64 (u64.wrap a)) H)):CF 484 ⟨[aB a]⟩ H K:=cE 476 [] h
def yR.r1(Inv:Int->Int->aC->Prop)(mu:Int->Int->aC->Nat)(n1 t37:Int)(H_:aC)(n2:Int)(H_3:aC):Prop:=
 Inv n2 (i64.wrap (t37+1)) H_3/\mu n2 (i64.wrap (t37+1)) H_3<mu n1 t37 H_
theorem Oi(h :
 ID (b<a) (
 K (.bool false) H) (
 aQ H l m λy=>
 ID ((u64.wrap y)<=(u64.wrap ((u64.wrap b)-(u64.wrap a)))) (
 K (.bool false) H) (
 hZ H l (m+1) λz=>
 ∃v:Int,cZ Tryz.prog (Builtin.len_ #[517] 3 #[.map z]) H (.int .i64 v)/\
 ∃(g:pQ) (a3:tB),g v 0 H/\
 ∀d e c,g d e c->
 ID (e<(i64.wrap ((i64.wrap (u64.wrap ((u64.wrap b)-(u64.wrap a))))+1))) (
 hZ c l (m+1) λv2=>
 ∃j k n o p q r s,∃x:Bool,cZ Tryz.prog (Instr.lookup 517 (.map v2) (A_is (i64.wrap (a+e)) w) true) c (lR (rA j k n o p q r s) x)/\
 AL c kU 159 λa0 a1=>
 ST a1 a0 0 (tA j k n o p q r s) λi=>
 ∀f:eQ,(∀t u,yR.r1 g a3 d e c t u->f t u)->
 IF (!x) (
 f (i64.wrap (d+1)) i) (
 f d i)) (
 aQ c l m λa2=>
 K (.bool (decide (d<=a2))) c)))):CF 462 ⟨(yF l m a b w)⟩ H K:=cE 0x1d1d1215612399251117494c [[(10,sI)],[(10,sI),(37,sI)]] h
theorem Oj(h :
 ID (c<1) (
 K (V_i2 0 11) H) (
 ∃g,CQ 484 #[aB a] H (.int .u64 g)/\
 ∃r1,CQ 484 #[aB b] H (.int .u64 r1)/\
 ∃r2 r3,CQ 316 #[.int .u64 g,.int .u64 r1] H (V_u2 r2 r3)/\
 ID ((u64.wrap c)<=r2) (
 K (V_i2 0 12) H) (
 CF 124 ⟨(L_u3 r2 r3 (u64.wrap c))⟩ H λj d=>∃r4 r5,j=(V_u2 r4 r5)/\
 ID (9223372036854775808<r4) (
 K (V_i2 0 12) d) (
 ∀f:eQ,(∀i e,(∃k r7,CQ 485 #[.int .u64 i,.bool (!((decide (a<0)) == (decide (b<0))))] e (V_i2 k r7)/\
 K (V_i2 k r7) e)->f i e)->
 IF ((!decide (r5=0))&&(!((!((decide (a<0)) == (decide (b<0)))) == y))) (
 f (u64.wrap (r4+1)) d) (
 f r4 d))))):CF 459 ⟨[aB a,aB b,aB c,.bool y]⟩ H K:=cE 511397949699228 [[(13,sU)]] h
theorem Ol(h :
 dt H l (m+1) λa3 c a4=>
 (((decide (0<(c:Int)))=true)->True)/\
 gd_l ((decide (0<(c:Int)))=true) H l (m+1) λi j a5=>
 (((decide (0<(c:Int)))=true)->(IX (i64.wrap ((c:Int)-1)) j))/\∃f g:Nat,(((decide (0<(c:Int)))=true)->(i=some ⟨f,g,none⟩))/\
 gd_i ((decide (0<(c:Int)))=true) H f (g+(i64.wrap ((c:Int)-1)).toNat*2) λk=>
 IF ((decide (0<(c:Int)))&&(decide (k=a))) (
 dt H l (m+1) λd e a6=>
 IA (i64.wrap ((c:Int)-1)) e d λn o=>
 aQ H n (o+(i64.wrap ((c:Int)-1)).toNat*2+1) λp=>
 IA (i64.wrap ((c:Int)-1)) e d λq r=>
 ST H q (r+(i64.wrap ((c:Int)-1)).toNat*2+1) [aB (i64.wrap (p+b))] λs=>
 K (.tuple #[]) s) (
 dt H l (m+1) λt u v=>
 AL H (fM a b) 475 λw x=>
 AP #[188,188] 188 (fO t u v (some ⟨w,0,none⟩) 1 1) x λy z a0 a1=>
 ST a1 l (m+1) [.slice y z a0] λa2=>
 K (.tuple #[]) a2)):CF 429 ⟨(L_ai2 l m a b)⟩ H K:=cE 8628 [] h
theorem Om(h :
 aQ H l m λk=>
 aQ H n o λs=>
 cv H p q λv2=>
 NN v2 (
 aQ H (aW v2) (aT v2) λt=>
 ST H l (m+1) [.bool (decide (k<(i64.wrap (s-t))))] λe=>
 rd_b e l (m+2) λf=>
 ((f=false)->True)/\
 ∃i,((f=false)->aM e l (m+1)=some (.bool i))/\
 ST e l (m+2) [.bool (f||i)] λa=>
 rd_b a l (m+1) λb=>
 (((!b)=true)->True)/\
 ∃c,(((!b)=true)->aM a l (m+3)=some (.bool c))/\
 ∃d,((((!b)&&(!c))=true)->aM a r n1=some (.bool d))/\
 (((((!b)&&(!c))=true)/\(!d)=false)->True)/\
 gd_i ((((!b)&&(!c))=true)/\(!d)=false) a l m λu=>
 gd_i ((((!b)&&(!c))=true)/\(!d)=false) a n2 n3 λv=>
 ∀g:dU,(∀j,(K (aB 0) j)->g j)->
 IF (((!b)&&(!c))&&((!d)||(decide (u<v)))) (
 aQ a l m λw=>
 ST a n2 n3 [aB w] λx=>
 ST x r n1 [.bool true] λy=>
 g y) (
 g a))):CF 428 ⟨[PA l m,PA n o,PA p q,PA r n1,PA n2 n3]⟩ H K:=cE 4582372508 [[]] h
theorem On(h :
 ID (b<a) (
 K (aB 10) H) (
 C_b 462 (yF l m a b w) H λc9 a7=>
 IF (!c9) (
 K (aB 20) a7) (
 ∃(a5:nS) (c7:nT),a5 none 0 0 0 a7/\
 ∀o f a2 d p,a5 o f a2 d p->
 ID (d<(i64.wrap ((i64.wrap (b-a))+1))) (
 AL p (L_is 0 (⟨#[]⟩:Eq)) 286 λj d0=>
 ST d0 j 0 (L_is (i64.wrap (a+d)) w) λe=>
 ∀a4:yH,(∀b5 b6 a3 g,(IN (a3=0) (
 K (aB a3) g) (
 ∃c0 b7,bV g j 0 (L_is c0 b7)/\
 ∃b8 b9 c1 c2 c3 c4 c5 c6,bV g b5 b6 (tA b8 b9 c1 c2 c3 c4 c5 c6)/\
 AL g (yG c0 b7 b8 b9 c1 c2 c3 c4 c5 c6) 288 λd1 d2=>
 AP #[283,283] 283 (fO o f a2 (some ⟨d1,0,none⟩) 1 1) d2 λa8 a9 b0 b1=>
 a5 a8 a9 b0 (i64.wrap (d+1)) b1/\c7 a8 a9 b0 (i64.wrap (d+1)) b1<c7 o f a2 d p))->a4 b5 b6 a3 g)->
 hZ e l (m+1) λz=>
 yI e j 0 λa0=>
 ∃q r s t u v x y,cZ Tryz.prog (Instr.lookup 517 (.map z) (.agg ⟨a0⟩) false) e (rA q r s t u v x y)/\
 (Ef 463 (L_vb (rA q r s t u v x y) (decide (a=b))) e λd3 d4 d5=>
 AL d5 kU 159 λb2 d6=>
 ST d6 b2 0 d3 λd7=>
 a4 b2 0 d4 d7)/\
 (AL e kU 159 λb3 k=>
 cZ Tryz.prog (Instr.lookup 517 (.map z) (.agg ⟨a0⟩) false) k (rA q r s t u v x y)/\
 bV k j 0 a0/\
 aM k l (m+1)=some (.map z)/\
 Ef 463 (L_vb (rA q r s t u v x y) (decide (a=b))) k λd8 d9 e0=>
 ST e0 b3 0 d8 λe1=>
 a4 b3 0 d9 e1)) (
 ∃(a6:eQ) (c8:jJ),a6 0 p/\
 ∀c i,a6 c i->
 ID (c<f) (
 IA c f o λe2 e3=>
 yJ i e2 (e3+c.toNat*74) λe4=>
 AL i Eg 288 λa1 e5=>
 ST e5 a1 0 e4 λn=>
 hZ n l (m+1) λe6=>
 yI n a1 0 λe7=>
 mX n a1 2 λe8=>
 MU 517 (.map e6) (.agg ⟨e7⟩) (.agg ⟨e8⟩) n λb4=>
 a6 (i64.wrap (c+1)) b4/\c8 (i64.wrap (c+1)) b4<c8 c i) (
 K (aB 0) i))))):CF 422 ⟨(yF l m a b w)⟩ H K:=cE 0x1dd1215612399251128d4421561239925144c [[(62,sI)],[(12,sA),(13,sI)],[(9,sS),(29,sI)]] h
theorem Oo(h :
 ID ((aX .and .i64 (aX .xor .i64 a (i64.wrap (a+b))) (aX .xor .i64 b (i64.wrap (a+b))))<0) (
 K (V_i2 0 12) H) (
 K (V_i2 (i64.wrap (a+b)) 0) H)):CF 418 ⟨(fM a b)⟩ H K:=cE 4572 [] h
theorem Oq(h :
 AL H [PA l m] 311 λp b7=>
 AL b7 [aB a] 2 λb8 b9=>
 AL b9 [.slice none 0 0] 283 λf q=>
 cv q p 0 λc1=>
 C_f 298 [.pointer c1] q λr c2 b=>
 bK r X.calls=true/\
 ∀c:Loop,c.state=.ready->c.pending=none->
 (∀(b5:Xb) (n:aC) (o:KQ),(∃w x y z a0 a1 a2 a3 a4 a5,b5=(L_v2 (A_is w x) (rA y z a0 a1 a2 a3 a4 a5))/\
 n[b.size+1]?=some (.loop c)/\
 AL n (L_is 0 (⟨#[]⟩:Eq)) 286 λg c3=>
 ST c3 g 0 (L_is w x) λc4=>
 AL c4 kU 159 λs c5=>
 ST c5 s 0 (tA y z a0 a1 a2 a3 a4 a5) λt=>
 t[b.size+1]?=some (.loop c)/\
 ∀d:aC,d=iQ t (b.size+1) { c with state:=.busy }->
 aQ d g 0 λc6=>
 aQ d b8 0 λv2=>
 ID (v2<=c6) (
 d[b.size+1]?=some (.loop { c with state:=.busy })/\o (.bool false) (iQ d (b.size+1) { c with state:=.done,pending:=some (.exit 0) })) (
 dt d f 0 λc7 c8 c9=>
 ∃c0 a6,bV d g 0 (L_is c0 a6)/\
 ∃a7 a8 a9 b0 b1 b2 b3 b4,bV d s 0 (tA a7 a8 a9 b0 b1 b2 b3 b4)/\
 AL d (yG c0 a6 a7 a8 a9 b0 b1 b2 b3 b4) 288 λd0 d1=>
 AP #[283,283] 283 (fO c7 c8 c9 (some ⟨d0,0,none⟩) 1 1) d1 λd2 d3 d4 d5=>
 ST d5 f 0 [.slice d2 d3 d4] λi=>
 cv i p 0 λk=>
 NN k (
 hZ i (aW k) ((aT k)+1) λd6=>
 yI i g 0 λd7=>
 bS Tryz.prog (Builtin.delete_ #[517,286] 0 #[.map d6,.agg ⟨d7⟩]) i λe4 u=>
 u[b.size+1]?=some (.loop { c with state:=.busy })/\o (.bool true) (iQ u (b.size+1) c))))->eK Tryz.prog (b.size+1) b5 n o)->
 CF r ⟨(.func (.yield (b.size+1)) #[] #[])::c2⟩ ((b.push (.deferred (some []))).push (.loop c)) λe5 v=>∃(b6:LoopState) (j:Option Code),b6≠.busy/\v[b.size+1]?=some (.loop { c with state:=b6,pending:=j })/\
 ∀e:aC,e=iQ v (b.size+1) { c with state:=.exhausted,pending:=j }->
 ((j=none/\
 dt e f 0 λd8 d9 e0=>
 e[b.size]?=some (.deferred (some []))/\
 K (.slice d8 d9 e0) (e.setIfInBounds b.size (.deferred none)))\/
 j=(some (.exit 0))/\
 dt e f 0 λe1 e2 e3=>
 e[b.size]?=some (.deferred (some []))/\
 K (.slice e1 e2 e3) (e.setIfInBounds b.size (.deferred none)))):CF 366 ⟨(kV l m a)⟩ H K:=cFE (.r (.r (.seq (.r (.blk (.rng [.agg [.int .i64, .str],.agg [.int .i64, .int .i64, .int .u64, .int .i64, .int .i64, .int .i64, .int .i64, .vec .i64 65]] [none,(some (.exit 0))] (.r .reg) (.blk (.seq (.r (.cond .no .no)) (.r .reg)))))) (.r .no)))) h
def yS.y1(b b1 leastb leasto foundb foundo:Nat)(H_4:aC)(R:Loop)(vs:Xb)(H_5:aC)(K_:KQ):Prop:=
 ∃y y0 y1 y2 y3,vs=(L_iv y (A_ib3 y0 y1 y2 y3))/\
 H_5[H_4.size+1]?=some (.loop R)/\
 H_5[H_4.size+1]?=some (.loop R)/\
 ∀H_6:aC,H_6=iQ H_5 (H_4.size+1) { R with state:=.busy }->
 cv H_6 b 0 λv7=>
 C_i 358 (L_piv v7 y (.func (.func 428) #[] #[(PA b1 0),(PA b 0),(PA foundb foundo),(PA leastb leasto)])) H_6 λr1 H_7=>
 H_7[H_4.size+1]?=some (.loop { R with state:=.busy })/\K_ (.bool true) (iQ H_7 (H_4.size+1) R)
theorem Ov(h :
 AL H [PA l m] 310 λc b6=>
 AL b6 [aB a] 2 λd e=>
 aQ e d 0 λb7=>
 Q_b 341 [aB b7] e λn=>
 gd_i ((!n)=false) e d 0 λb8=>
 ∃v2,(((!n)=false)->aM e c 0=some (.pointer v2))/\
 (((!n)=false)->isA v2)/\
 gd_i ((!n)=false) e (aW v2) ((aT v2)+1) λb9=>
 IF ((!n)||(decide (b8<b9))) (
 K (aB 11) e) (
 cv e c 0 λt=>
 aQ e d 0 λc0=>
 NN t (
 ST e (aW t) ((aT t)+1) [aB c0] λo=>
 ∀z:J_n4HP,(∀w x b0 b1 y,(cv y c 0 λc1=>
 C_f 427 [.pointer c1] y λa1 c2 f=>
 bK a1 X.calls=true/\
 ∀j:Loop,j.state=.ready->j.pending=none->
 (∀(b2:Xb) (b3:aC) (b4:KQ),yS.y1 c d w x b0 b1 f j b2 b3 b4->eK Tryz.prog (f.size+1) b2 b3 b4)->
 CF a1 ⟨(.func (.yield (f.size+1)) #[] #[])::c2⟩ ((f.push (.deferred (some []))).push (.loop j)) λc7 a2=>∃(b5:LoopState) (a0:Option Code),b5≠.busy/\a2[f.size+1]?=some (.loop { j with state:=b5,pending:=a0 })/\
 ∀k:aC,k=iQ a2 (f.size+1) { j with state:=.exhausted,pending:=a0 }->
 a0=none/\
 cv k c 0 λu=>
 cv k c 0 λv=>
 NN v (
 aQ k (aW v) ((aT v)+2) λa3=>
 aQ k w x λa4=>
 NN u (
 ST k (aW u) ((aT u)+2) [aB (if a4>a3 then a4 else a3)] λa5=>
 a5[f.size]?=some (.deferred (some []))/\
 K (aB 0) (a5.setIfInBounds f.size (.deferred none)))))->z w x b0 b1 y)->
 aQ o d 0 λg=>
 cv o c 0 λb=>
 NN b (
 aQ o (aW b) (aT b) λi=>
 (AL o [aB 0] 2 λa6 p=>
 aM p (aW b) (aT b)=some (aB i)/\
 aM p c 0=some (.pointer b)/\
 aM p d 0=some (aB g)/\
 AL p [.bool false] 4 λa7 q=>
 aM q (aW b) (aT b)=some (aB i)/\
 aM q c 0=some (.pointer b)/\
 aM q d 0=some (aB g)/\
 ST q a6 0 [aB (i64.wrap (g-i))] λc3=>
 ST c3 a7 0 [.bool false] λc4=>
 z a6 0 a7 0 c4)/\
 (AL o [.bool false] 4 λa8 r=>
 aM r (aW b) (aT b)=some (aB i)/\
 aM r c 0=some (.pointer b)/\
 aM r d 0=some (aB g)/\
 AL r [aB 0] 2 λa9 s=>
 aM s (aW b) (aT b)=some (aB i)/\
 aM s c 0=some (.pointer b)/\
 aM s d 0=some (aB g)/\
 ST s a9 0 [aB (i64.wrap (g-i))] λc5=>
 ST c5 a8 0 [.bool false] λc6=>
 z a9 0 a8 0 c6))))):CF 365 ⟨(kV l m a)⟩ H K:=cFE (.r (.seq (.r (.cond (.r .no) .no)) (.r (.seq (.regJ [(5,sA),(6,sA)]) (.seq (.r (.blk (.rng [sI,.agg [.int .i64, .bool, .bool, .bool]] [none] .reg (.blk .reg)))) (.r (.r .no))))))) h
theorem Ow(h :
 C_l 420 [.slice s l m] H λd c i j=>
 ∃(e:eQ) (g:jJ),e 0 j/\
 ∀a b,e a b->
 ID (a<c) (
 IA a c d λk n=>
 dt b k (n+a.toNat*4+2+1) λo p q=>
 C_l 274 [.slice o p q] b λr t u v=>
 IA a c d λw x=>
 ST v w (x+a.toNat*4+2+1) [.slice r t u] λf=>
 e (i64.wrap (a+1)) f/\g (i64.wrap (a+1)) f<g a b) (
 K (.slice d c i) b)):CF 361 ⟨[.slice s l m]⟩ H K:=cE 0x1121561239925144c [[(8,sI)]] h
theorem Ox(h :
 IF ((decide (a<0))||(decide (2199023255552<a))) (
 K (V_ni n) H) (
 ∃(z:pQ) (b3:tB),z 0 0 H/\
 ∀d b f,z d b f->
 ID (b<n) (
 IA b n s λb5 b6=>
 rB f b5 (b6+b.toNat*4) λb7=>
 AL f vz 258 λa1 b8=>
 ST b8 a1 0 b7 λr=>
 hZ r l (m+2) λb9=>
 Eh 520 (.map b9) (aB (i64.wrap (a+b))) r λc0 c1=>
 AL r vz 258 λc2 c3=>
 ST c3 c2 0 c0 λc=>
 aQ c l m λc4=>
 ∀x:eQ,(∀v w,(z v (i64.wrap (b+1)) w/\b3 v (i64.wrap (b+1)) w<b3 d b f)->x v w)->
 IF ((decide ((i64.wrap (a+b))<c4))||c1) (
 x d c) (
 aQ c l m λv2=>
 aQ c l (m+1) λc5=>
 ∀y:eQ,(∀b1 b2,(x b1 b2)->y b1 b2)->
 ID ((i64.wrap (v2+c5))<=(i64.wrap (a+b))) (
 y (i64.wrap (d+1)) c) (
 hZ c l (m+2) λc6=>
 rB c a1 0 λc7=>
 MU 520 (.map c6) (aB (i64.wrap (a+b))) (.agg ⟨c7⟩) c λc8=>
 y d c8))) (
 ∃(a0:nS) (b4:nT),a0 none 0 0 d f/\
 ∀k p q g e,a0 k p q g e->
 hZ e l (m+2) λt=>
 aQ e l m λu=>
 Eh 520 (.map t) (aB u) e λa2 a3=>
 AL e vz 258 λa4 i=>
 cZ Tryz.prog (Instr.lookup 520 (.map t) (aB u) true) i (lR (.agg ⟨a2⟩) a3)/\
 aM i l m=some (aB u)/\
 aM i l (m+2)=some (.map t)/\
 ST i a4 0 a2 λj=>
 IF (!a3) (
 K (V_li k p q g) j) (
 hZ j l (m+2) λc9=>
 aQ j l m λd0=>
 bS Tryz.prog (Builtin.delete_ #[520,2] 0 #[.map c9,aB d0]) j λd5 a5=>
 rB a5 a4 0 λd1=>
 AL a5 d1 258 λd2 d3=>
 AP #[148,148] 148 (fO k p q (some ⟨d2,0,none⟩) 1 1) d3 λa6 a7 a8 a9=>
 aQ a9 l m λd4=>
 ST a9 l m [aB (i64.wrap (d4+1))] λb0=>
 a0 a6 a7 a8 g b0/\b4 a6 a7 a8 g b0<b4 k p q g e)))):CF 360 ⟨(L_ail l m a s n o)⟩ H K:=cE 0x1d215612399251115179174445651d114 [[(6,sS),(7,sI)],[(7,sI)],[(7,sI)],[(7,sI),(25,sI)]] h
def yT.r1(K:KQ)(b1:Nat)(r3 v2 hi:Int)(H_7:aC):Prop:=
 ID ((if 4611686018427387903<hi then 4611686018427387903 else hi)<(if 0>(i64.wrap (v2+r3)) then 0 else (i64.wrap (v2+r3)))) (
 ST H_7 b1 0 (fM 0 0) λH_8=>
 rC H_8 b1 0 λl2=>
 K (gl (.agg ⟨l2⟩) 13) H_8) (
 ST H_7 b1 0 (fM (if 0>(i64.wrap (v2+r3)) then 0 else (i64.wrap (v2+r3))) (if 4611686018427387903<hi then 4611686018427387903 else hi)) λH_9=>
 rC H_9 b1 0 λl3=>
 K (gl (.agg ⟨l3⟩) 0) H_9)
theorem Oz(h :
 AL H (L_i4 a b c d) 167 λi t=>
 AL t (fM 0 0) 140 λj m=>
 pR m i 0 λu=>
 C_b 348 [.agg ⟨u⟩] m λv g=>
 IF (!v) (
 ST g j 0 (fM 0 0) λn=>
 rC n j 0 λw=>
 K (gl (.agg ⟨w⟩) 10) n) (
 Q_b 415 [aB e] g λr1=>
 ∃r2,(((!r1)=false)->CQ 332 #[aB f] g (.bool r2))/\
 IF ((!r1)||(!r2)) (
 ST g j 0 (fM 0 0) λo=>
 rC o j 0 λx=>
 K (gl (.agg ⟨x⟩) 11) o) (
 aQ g i 1 λy=>
 vA 416 (fM (i64.wrap (e-y)) f) g λr3 r4 p=>
 aQ p i 2 λz=>
 vA 417 (fM (i64.wrap (e-z)) f) p λr5 A k=>
 aQ k i 0 λv2=>
 aQ k i 3 λa0=>
 ∃r7 q,CQ 418 #[aB a0,aB r5] k (V_i2 r7 q)/\
 ∀l:eQ,(∀r s,yT.r1 K j r3 v2 r s->l r s)->
 IN (q=0) (
 l 4611686018427387903 k) (
 l r7 k)))):CF 355 ⟨(L_vi2 (A_i4 a b c d) e f)⟩ H K:=cE 0x1dd1111217491dc [[(13,sI)]] h
theorem O0(h :
 AL H (lQ a b) 155 λi n=>
 bS Tryz.prog (Instr.makeSlice 38 (aB 16) (aB 16)) n λo p=>
 ∃e f l,o=(.slice e f l)/\
 ∃(g:eQ) (m:jJ),g 0 p/\
 ∀c d,g c d->
 ID (c<8) (
 aQ d i 0 λq=>
 ((0:Int)<=(i64.wrap (8*c)))/\
 IA (i64.wrap (7-c)) f e λr s=>
 ST d r (s+(i64.wrap (7-c)).toNat) [.int .u8 (u8.wrap (Int.fdiv (u64.wrap q) (2^(min (Int.toNat (i64.wrap (8*c))) (u64.bits)))))] λj=>
 rd_u j i 1 λt=>
 ((0:Int)<=(i64.wrap (8*c)))/\
 IA (i64.wrap (15-c)) f e λu v=>
 ST j u (v+(i64.wrap (15-c)).toNat) [.int .u8 (u8.wrap (Int.fdiv t (2^(min (Int.toNat (i64.wrap (8*c))) (u64.bits)))))] λk=>
 g (i64.wrap (c+1)) k/\m (i64.wrap (c+1)) k<m c d) (
 K (.slice e f l) d)):CF 347 ⟨[(A_iu a b)]⟩ H K:=cE 0x11215612399251144c [[(6,sI)]] h
theorem O1(h :
 AL H (L_in 0) 278 λb k=>
 C_Tli_ 111 [.slice s l m] k λe a d n f=>
 IN (n=0) (
 ST f b 0 (L_in 0) λg=>
 yK g b 0 λo=>
 K (lR (.agg ⟨o⟩) false) g) (
 C_p 113 [.slice e a d] f λr1 p=>
 C_i 117 (gz r1 255) p λr2 c=>
 Q_i 187 [.pointer r1] c λr3=>
 ∃r4,(((!decide (r3=0))=false)->CQ 334 #[.pointer r1] c (aB r4))/\
 IF ((!decide (r3=0))||(decide (262144<r4))) (
 ST c b 0 (L_in 0) λi=>
 yK i b 0 λq=>
 K (lR (.agg ⟨q⟩) false) i) (
 Q_i 334 [.pointer r1] c λr5=>
 (BD (i64.wrap ((a:Int)-r5)) a d)/\
 C_l 412 [(.slice (bM e ((i64.wrap ((a:Int)-r5)).toNat) d 1) (a-((i64.wrap ((a:Int)-r5)).toNat)) (d-((i64.wrap ((a:Int)-r5)).toNat)))] c λr t u v=>
 ST v b 0 (L_il r2 r t u) λj=>
 yK j b 0 λw=>
 K (lR (.agg ⟨w⟩) true) j))):CF 335 ⟨[.slice s l m]⟩ H K:=cE 18682332 [] h
theorem O4(h :
 gA H m n λa0=>
 ID ((a0.size:Int)=0) (
 ∃(i:dU) (y:J_Hn),i H/\
 ∀a,i a->
 gA a o p λa1=>
 ID (0<(a1.size:Int)) (
 gA a o p λv2=>
 CF 135 ⟨[.string v2]⟩ a λa2 k=>∃b0 r1,a2=(V_ri b0 r1)/\
 gA k o p λs=>
 (BD 0 r1 s.size)/\
 eK Tryz.prog l [.string (s.extract 0 r1.toNat)] k λa3 g=>∃r2,a3=(.bool r2)/\
 IF (!r2) (
 K (.tuple #[]) g) (
 gA g o p λd=>
 (BD r1 d.size d.size)/\
 ST g o p [.string (d.extract r1.toNat d.size)] λt=>
 i t/\y t<y a)) (
 K (.tuple #[]) a)) (
 ∃(j:dU) (z:J_Hn),j H/\
 ∀c,j c->
 gA c o p λa4=>
 gA c m n λa5=>
 C_i 85 (lS a4 a5) c λr3 b=>
 ID (r3<0) (
 gA b o p λa6=>
 eK Tryz.prog l [.string a6] b λa7 a8=>∃r4,a7=(.bool r4)/\
 K (.tuple #[]) a8) (
 gA b o p λu=>
 aQ b q r λv=>
 (BD 0 (i64.wrap (r3+v)) u.size)/\
 eK Tryz.prog l [.string (u.extract 0 ((i64.wrap (r3+v)).toNat))] b λa9 e=>∃r5,a9=(.bool r5)/\
 IF (!r5) (
 K (.tuple #[]) e) (
 gA e o p λf=>
 gA e m n λw=>
 (BD (i64.wrap (r3+(w.size:Int))) f.size f.size)/\
 ST e o p [(.string (f.extract ((i64.wrap (r3+(w.size:Int))).toNat) f.size))] λx=>
 j x/\z x<z c)))):CF 328 ⟨[.func (.yield l) #[] #[],PA m n,PA o p,PA q r]⟩ H K:=cE 0x213256213995121399499256512139912139944 [[],[]] h
theorem O5(h :
 (((decide ((x.size:Int)<=(w.size:Int)))=true)->(BD (i64.wrap ((w.size:Int)-(x.size:Int))) w.size w.size))/\
 K (.bool ((decide ((x.size:Int)<=(w.size:Int)))&&((w.extract ((i64.wrap ((w.size:Int)-(x.size:Int))).toNat) w.size).toList == x.toList))) H):CF 327 ⟨(lS w x)⟩ H K:=cE 28 [] h
theorem O6(h :
 ((0:Int)<=32)/\
 ((0:Int)<=32)/\
 ((0:Int)<=32)/\
 ((0:Int)<=32)/\
 ((0:Int)<=32)/\
 K (V_u2 (u64.wrap ((u64.wrap ((u64.wrap ((Int.fdiv a (2^(min (Int.toNat 32) (u64.bits))))*(Int.fdiv b (2^(min (Int.toNat 32) (u64.bits))))))+(Int.fdiv (u64.wrap ((u64.wrap ((Int.fdiv a (2^(min (Int.toNat 32) (u64.bits))))*(aX .and .u64 b 4294967295)))+(Int.fdiv (u64.wrap ((aX .and .u64 a 4294967295)*(aX .and .u64 b 4294967295))) (2^(min (Int.toNat 32) (u64.bits)))))) (2^(min (Int.toNat 32) (u64.bits))))))+(Int.fdiv (u64.wrap ((aX .and .u64 (u64.wrap ((u64.wrap ((Int.fdiv a (2^(min (Int.toNat 32) (u64.bits))))*(aX .and .u64 b 4294967295)))+(Int.fdiv (u64.wrap ((aX .and .u64 a 4294967295)*(aX .and .u64 b 4294967295))) (2^(min (Int.toNat 32) (u64.bits)))))) 4294967295)+(u64.wrap ((aX .and .u64 a 4294967295)*(Int.fdiv b (2^(min (Int.toNat 32) (u64.bits)))))))) (2^(min (Int.toNat 32) (u64.bits)))))) (u64.wrap (a*b))) H):CF 316 ⟨(L_u2 a b)⟩ H K:=cE 18764998447388 [] h
def mY.r1(K:KQ)(x3 n2:Int)(H_2:aC):Prop:=
 (IX (u8.wrap x3) (lt0:Eq).size)/\
 K (aB (i64.wrap (n2+(i64.wrap (bAt (lt0:Eq) (u8.wrap x3).toNat))))) H_2
def mY.r2(K:KQ)(x2 n1:Int)(H_1:aC):Prop:=
 ∀Jn2:pQ,(∀x3 n2 H_2,mY.r1 K x3 n2 H_2->Jn2 x3 n2 H_2)->
 ID (256<=x2) (
 ((0:Int)<=8)/\
 Jn2 (Int.fdiv x2 (2^(min (Int.toNat 8) (u64.bits)))) (i64.wrap (n1+8)) H_1) (
 Jn2 x2 n1 H_1)
def mY.r3(K:KQ)(x1 n:Int)(H_:aC):Prop:=
 ∀Jn1:pQ,(∀x2 n1 H_1,mY.r2 K x2 n1 H_1->Jn1 x2 n1 H_1)->
 ID (65536<=x1) (
 ((0:Int)<=16)/\
 Jn1 (Int.fdiv x1 (2^(min (Int.toNat 16) (u64.bits)))) (i64.wrap (n+16)) H_) (
 Jn1 x1 n H_)
theorem O7(h :
 AL H (lQ 0 0) 155 λe n=>
 AL n (lQ 0 0) 155 λc o=>
 ∃(d:eQ) (k:jJ),d 0 o/\
 ∀b a,d b a->
 ID (b<l) (
 IA b l s λp q=>
 aQ a p (q+b.toNat) λf=>
 rd_u a c 1 λr=>
 ∃j r1,sx Tryz.prog 404 #[.int .u64 r,.int .u64 (u64.wrap f),.int .u64 0] (V_u2 j r1)/\
 aQ a c 0 λv2=>
 ((0:Int)<=63)/\
 ST a c 0 (lQ (i64.wrap ((i64.wrap (v2+(Int.fdiv f (2^(min (Int.toNat 63) (i64.bits))))))+(i64.wrap r1))) j) λg=>
 d (i64.wrap (b+1)) g/\k (i64.wrap (b+1)) g<k b a) (
 r9 a c 0 λt=>
 ST a e 0 t λi=>
 r9 i e 0 λu=>
 K (.agg ⟨u⟩) i)):CF 312 ⟨[.slice s l m]⟩ H K:=cE 0x11215612399251144c [[(10,sI)]] h
theorem O8(h :
 AL H (jK b c d) 332 λk s=>
 hZ s l (m+18) λc5=>
 LK_p 312 (.map c5) (aB a) s λe=>
 cv s l (m+16) λc6=>
 Ei 285 (gz c6 a) s λc7 o5 c8=>
 AL c8 ZL_ib3 334 λn c9=>
 ST c9 n 0 c7 λg=>
 aQ g k 0 λv2=>
 aQ g k 1 λa6=>
 aQ g k 2 λa7=>
 aQ g n 0 λa8=>
 rd_b g n 1 λd0=>
 rd_b g n 2 λd1=>
 rd_b g n 3 λd2=>
 AL g [.bool d0,.bool d1,.bool d2] 4 λd3 o=>
 aM o n 0=some (aB a8)/\
 aM o k 2=some (aB a7)/\
 aM o k 1=some (aB a6)/\
 aM o k 0=some (aB v2)/\
 Q_i 388 [.slice (some ⟨d3,0,none⟩) 3 3] o λr4=>
 AL o [aB a,aB v2,aB a6,aB a7,aB a8,aB r4] 2 λd4 d5=>
 C_l 268 [.slice (some ⟨d4,0,none⟩) 6 6] d5 λd6 d7 d8 a9=>
 NN e (
 aQ a9 (aW e) ((aT e)+2) λd9=>
 AL a9 [aB d9] 2 λe0 e1=>
 C_l 293 [.slice (some ⟨e0,0,none⟩) 1 1] e1 λe2 e3 e4 e5=>
 AP #[38,38] 38 (fO d6 d7 d8 e2 e3 e4) e5 λe6 e7 e8 b0=>
 NN e (
 cv b0 (aW e) (aT e) λe9=>
 C_l 288 [.pointer e9] b0 λf0 a1 o6 t=>
 NN e (
 cv t (aW e) (aT e) λf1=>
 Q_b 256 [.pointer f1] t λr5=>
 NN e (
 cv t (aW e) (aT e) λb1=>
 AL t [.bool r5] 4 λf2 u=>
 aM u (aW e) (aT e)=some (.pointer b1)/\
 Q_i 388 [.slice (some ⟨f2,0,none⟩) 1 1] u λA=>
 Q_i 389 [.pointer b1] u λr7=>
 AL u (jK A r7 a1) 2 λf3 f4=>
 C_l 268 [.slice (some ⟨f3,0,none⟩) 3 3] f4 λf5 f6 f7 f8=>
 AP #[38,38] 38 (fO e6 e7 e8 f5 f6 f7) f8 λf9 g0 g1 g2=>
 ∃(a4:nS) (c3:nT),a4 f9 g0 g1 0 g2/\
 ∀v w x i j,a4 v w x i j->
 ID (i<a1) (
 IA i a1 f0 λg3 g4=>
 pR j g3 (g4+i.toNat*4) λg5=>
 AL j ZL_i4 167 λp g6=>
 ST g6 p 0 g5 λq=>
 aQ q p 0 λg7=>
 aQ q p 1 λg8=>
 aQ q p 2 λg9=>
 aQ q p 3 λi0=>
 AL q (L_i4 g7 g8 g9 i0) 2 λi1 i2=>
 C_l 268 [.slice (some ⟨i1,0,none⟩) 4 4] i2 λi3 i4 i5 i6=>
 AP #[38,38] 38 (fO v w x i3 i4 i5) i6 λb2 b3 b4 b5=>
 a4 b2 b3 b4 (i64.wrap (i+1)) b5/\c3 b2 b3 b4 (i64.wrap (i+1)) b5<c3 v w x i j) (
 NN e (
 cv j (aW e) ((aT e)+1) λi7=>
 NN e (
 cv j (aW e) ((aT e)+1) λb6=>
 C_l 287 [.pointer i7] j λi9 a2 o7 b7=>
 aM b7 (aW e) ((aT e)+1)=some (.pointer b6)/\
 C_p 266 [.pointer b6] b7 λk0 k1=>
 C_l 390 [.pointer k0] k1 λk2 k3 o8 a3=>
 NN e (
 cv a3 (aW e) ((aT e)+1) λk4=>
 Q_i 286 [.pointer k4] a3 λk5=>
 AL a3 (fM k5 a2) 2 λk6 k7=>
 C_l 268 [.slice (some ⟨k6,0,none⟩) 2 2] k7 λk8 k9 m0 m1=>
 AP #[38,38] 38 (fO v w x k8 k9 m0) m1 λm2 m3 m4 m5=>
 ∃(a5:nS) (c4:nT),a5 m2 m3 m4 0 m5/\
 ∀y z a0 f r,a5 y z a0 f r->
 ID (f<a2) (
 IA f a2 i9 λm6 m7=>
 aQ r m6 (m7+f.toNat) λm8=>
 AL r [aB m8] 2 λm9 n0=>
 C_l 268 [.slice (some ⟨m9,0,none⟩) 1 1] n0 λn1 n2 n3 n4=>
 AP #[38,38] 38 (fO y z a0 n1 n2 n3) n4 λn5 n6 n7 b8=>
 IA f k3 k2 λn8 n9=>
 rB b8 n8 (n9+f.toNat*4) λo0=>
 C_l 269 [.agg ⟨o0⟩] b8 λo1 o2 o3 o4=>
 AP #[38,38] 38 (fO n5 n6 n7 o1 o2 o3) o4 λb9 c0 c1 c2=>
 a5 b9 c0 c1 (i64.wrap (f+1)) c2/\c4 b9 c0 c1 (i64.wrap (f+1)) c2<c4 y z a0 f r) (
 K (.slice y z a0) r)))))))))):CF 296 ⟨[PA l m,aB a,(A_i3 b c d)]⟩ H K:=cE 0x11111112156123992514411215612399251144c [[(10,sS),(126,sI)],[(10,sS),(85,sI)]] h
def Es.r1(rb ro:Nat)(K:KQ)(ra1:Xa)(rn1 rc1:Nat)(H_3:aC):Prop:=
 cv H_3 rb ro λv3=>
 aQ H_3 rb (ro+2) λv4=>
 AL H_3 [(.slice ra1 rn1 rc1)] 38 λb H_4=>
 aM H_4 rb (ro+2)=some (aB v4)/\
 aM H_4 rb ro=some (.pointer v3)/\
 C_i 375 (L_pil v3 v4 (some ⟨b,0,none⟩) 1 1) H_4 λr2 H_5=>
 IN (r2=0) (
 K (V_i2 (-1) r2) H_5) (
 aQ H_5 rb (ro+3) λv5=>
 ST H_5 rb (ro+3) [(aB (i64.wrap (v5+1)))] λH_6=>
 aQ H_6 rb (ro+3) λv6=>
 K (V_i2 (i64.wrap (v6-1)) 0) H_6)
theorem O9(h :
 ST H l (m+9) [aB a] λo=>
 cv o l (m+16) λb1=>
 C_i 365 (gz b1 a) o λc7 c=>
 cv c l (m+17) λp=>
 Ej c l (m+12) λb2=>
 cv c l (m+16) λv2=>
 Q_i 294 [.pointer v2] c λr1=>
 C_i 367 (L_vi (.agg ⟨b2⟩) r1) c λr2 q=>
 aM q l (m+17)=some (.pointer p)/\
 C_l 366 (gz p r2) q λb3 r c8 b4=>
 ∃(n:nS) (b0:nT),n none 0 0 0 b4/\
 ∀e f g b d,n e f g b d->
 ID (b<r) (
 IA b r b3 λb5 b6=>
 yJ d b5 (b6+b.toNat*74) λb7=>
 AL d Eg 288 λi b8=>
 ST b8 i 0 b7 λj=>
 Q_i 349 [PA l m] j λr3=>
 ∃a0 a1 a2 a3 a4 a5 a6 a7 a8 a9,bV j i 0 (yG a0 a1 a2 a3 a4 a5 a6 a7 a8 a9)/\
 AL j (tC 4 0 0 0 0 r3 0 0 0 0 0 0 0 a0 a1 a2 a3 a4 a5 a6 a7 a8 a9) 428 λb9 c0=>
 AP #[292,292] 292 (fO e f g (some ⟨b9,0,none⟩) 1 1) c0 λs t u k=>
 dt k l (m+19) λv w x=>
 yJ k i 0 λc1=>
 AL k c1 288 λc2 y=>
 aM y l (m+19)=some (.slice v w x)/\
 AP #[283,283] 283 (fO v w x (some ⟨c2,0,none⟩) 1 1) y λc3 c4 c5 c6=>
 ST c6 l (m+19) [.slice c3 c4 c5] λz=>
 n s t u (i64.wrap (b+1)) z/\b0 s t u (i64.wrap (b+1)) z<b0 e f g b d) (
 K (.slice e f g) d)):CF 259 ⟨(kV l m a)⟩ H K:=cE 0x1111215612399251144c [[(5,sS),(34,sI)]] h
theorem OD(h :
 AL H (yL a b c d e f g i j k a0 s n o) 169 λr z=>
 aQ z r 6 λa3=>
 ST z l (m+9) [aB a3] λp=>
 hZ p l (m+18) λa4=>
 aQ p r 1 λv2=>
 LK_p 312 (.map a4) (aB v2) p λq=>
 aQ p r 4 λt=>
 NN q (
 cv p (aW q) ((aT q)+1) λa5=>
 Q_i 286 [.pointer a5] p λu=>
 gd_i ((!decide (t=u))=false) p r 5 λv=>
 (((!decide (t=u))=false)->isA q)/\
 gd_i ((!decide (t=u))=false) p (aW q) ((aT q)+2) λw=>
 ((((!decide (t=u))||(decide (v<w)))=false)->isA q)/\
 ∃a2,((((!decide (t=u))||(decide (v<w)))=false)->aM p (aW q) (aT q)=some (.pointer a2))/\
 ∃A,((((!decide (t=u))||(decide (v<w)))=false)->CQ 256 #[.pointer a2] p (.bool A))/\
 IF (((!decide (t=u))||(decide (v<w)))||A) (
 K (.tuple #[]) p) (
 aQ p r 1 λa6=>
 aQ p r 5 λa7=>
 yM 363 [PA l m,aB a6,.pointer q,aB a7] p λa8 B a9=>
 AL a9 (fM 0 0) 140 λa1 b0=>
 ST b0 a1 0 a8 λy=>
 IN (B=0) (
 K (.tuple #[]) y) (
 aQ y r 5 λb1=>
 NN q (
 ST y (aW q) ((aT q)+2) [aB b1] λx=>
 cv x l (m+16) λb2=>
 aQ x r 1 λb3=>
 aQ x a1 0 λb4=>
 C_i 364 (L_pi2 b2 b3 b4) x λb6 b5=>
 K (.tuple #[]) b5))))):CF 258 ⟨(L_av l m (yN a b c d e f g i j k a0 s n o))⟩ H K:=cE 0x1112139912139914 [] h
theorem OE(h :
 AL H (yL a b c d e f g i j k a0 s n o) 169 λq a4=>
 aQ a4 q 6 λc8=>
 ST a4 l (m+9) [aB c8] λr=>
 hZ r l (m+18) λc9=>
 aQ r q 1 λv2=>
 LK_p 312 (.map c9) (aB v2) r λp=>
 NN p (
 cv r (aW p) ((aT p)+1) λd0=>
 Q_i 286 [.pointer d0] r λd1=>
 NN p (
 cv r (aW p) ((aT p)+1) λa5=>
 aQ r q 4 λa6=>
 dt r q 11 λd2 d3 d4=>
 C_l 361 [.slice d2 d3 d4] r λd5 d6 d7 z=>
 aM z q 4=some (aB a6)/\
 aM z (aW p) ((aT p)+1)=some (.pointer a5)/\
 C_Tli_ 360 (L_pil a5 a6 d5 d6 d7) z λd8 a7 g5 B d9=>
 ∃(a3:nS) (c7:nT),a3 none 0 0 0 d9/\
 ∀w x y u t,a3 w x y u t->
 ID (u<a7) (
 IA u a7 d8 λe0 e1=>
 rB t e0 (e1+u.toNat*4) λe2=>
 AL t vz 258 λa8 e3=>
 ST e3 a8 0 e2 λa1=>
 aQ a1 q 1 λe4=>
 rB a1 a8 0 λe5=>
 CF 362 ⟨[PA l m,aB e4,.pointer p,.agg ⟨e5⟩]⟩ a1 λe6 e7=>∃b6 b7 b8 b9,e6=(V_v2 (A_i2 b6 b7) (A_i2 b8 b9))/\
 AL e7 (fM 0 0) 138 λa9 e8=>
 AL e8 (fM 0 0) 140 λb0 e9=>
 ST e9 a9 0 (fM b6 b7) λf0=>
 ST f0 b0 0 (fM b8 b9) λa2=>
 aQ a2 q 1 λf1=>
 aQ a2 q 2 λf2=>
 AL a2 (jK 0 0 0) 136 λb1 f3=>
 ST f3 b1 0 (jK f1 f2 (i64.wrap (d1+u))) λv=>
 ∃c0 c1 c2,bV v b1 0 (jK c0 c1 c2)/\
 ∃c3 c4,bV v a9 0 (fM c3 c4)/\
 ∃c5 c6,bV v b0 0 (fM c5 c6)/\
 AL v (tC 3 0 0 0 0 0 c0 c1 c2 c3 c4 c5 c6 0 (⟨#[]⟩:Eq) 0 0 0 0 0 0 0 Z0) 428 λf4 f5=>
 AP #[292,292] 292 (fO w x y (some ⟨f4,0,none⟩) 1 1) f5 λb2 b3 b4 b5=>
 a3 b2 b3 b4 (i64.wrap (u+1)) b5/\c7 b2 b3 b4 (i64.wrap (u+1)) b5<c7 w x y u t) (
 aQ t q 1 λf6=>
 aQ t q 2 λf7=>
 NN p (
 cv t (aW p) ((aT p)+1) λf8=>
 Q_i 286 [.pointer f8] t λA=>
 AL t (tC 2 f6 f7 0 A 0 0 0 0 0 0 0 0 0 (⟨#[]⟩:Eq) 0 0 0 0 0 0 0 Z0) 428 λf9 g0=>
 AP #[292,292] 292 (fO w x y (some ⟨f9,0,none⟩) 1 1) g0 λg1 g2 g3 g4=>
 K (.slice g1 g2 g3) g4))))):CF 257 ⟨(L_av l m (yN a b c d e f g i j k a0 s n o))⟩ H K:=cE 0x1111112156123992511144c [[(9,sS),(47,sI)]] h
def yU.r7(cb co:Nat)(K:KQ)(b:Nat)(H_5:aC):Prop:=
 dt H_5 cb (co+4) λva2 vn2 vc2=>
 bS Tryz.prog (Instr.makeSlice 544 (aB 0) (aB vn2)) H_5 λu1 H_6=>
 ∃sa1 sn1 sc1,u1=(.slice sa1 sn1 sc1)/\
 dt H_6 cb (co+4) λva3 vn3 vc3=>
 ∃(Inv:nS) (mu:nT),Inv sa1 sn1 sc1 0 H_6/\
 ∀gapsa gapsn gapsc t48 H_7,Inv gapsa gapsn gapsc t48 H_7->
 ID (t48<vn3) (
 IA t48 vn3 va3 λb2 o=>
 pR H_7 b2 (o+t48.toNat*4) λl4=>
 AL H_7 ZL_i4 167 λb3 H_8=>
 ST H_8 b3 0 l4 λH_9=>
 ∀Jn1:yH,(∀gb go e_ H_10,(∀Jn2:dU,(∀H_11,(rC H_11 gb go λl=>
 AL H_11 l 140 λb4 H_12=>
 AP #[544,544] 544 (fO gapsa gapsn gapsc (some ⟨b4,0,none⟩) 1 1) H_12 λsa2 sn2 sc2 H_13=>
 Inv sa2 sn2 sc2 (i64.wrap (t48+1)) H_13/\mu sa2 sn2 sc2 (i64.wrap (t48+1)) H_13<mu gapsa gapsn gapsc t48 H_7)->Jn2 H_11)->
 IN (e_=0) (
 ST H_10 gb go (fM 1 0) λH_14=>
 Jn2 H_14) (
 Jn2 H_10))->Jn1 gb go e_ H_10)->
 pR H_9 b3 0 λl3=>
 aQ H_9 b 2 λv=>
 aQ H_9 cb co λv1=>
 (yM 355 (L_vi2 (.agg ⟨l3⟩) v v1) H_9 λl1 r2 H_15=>
 AL H_15 (fM 0 0) 140 λb5 H_16=>
 ST H_16 b5 0 l1 λH_17=>
 Jn1 b5 0 r2 H_17)/\
 (AL H_9 (fM 0 0) 140 λb6 H_18=>
 aM H_18 cb co=some (aB v1)/\
 aM H_18 b 2=some (aB v)/\
 bV H_18 b3 0 l3/\
 yM 355 (L_vi2 (.agg ⟨l3⟩) v v1) H_18 λl2 r3 H_19=>
 ST H_19 b6 0 l2 λH_20=>
 Jn1 b6 0 r3 H_20)) (
 C_b 356 [(.slice gapsa gapsn gapsc)] H_7 λr4 H_21=>
 IF r4 (
 aQ H_21 cb (co+1+2) λv2=>
 ∀Jn3:dU,(∀H_22,(aQ H_22 cb (co+1+2) λv3=>
 aQ H_22 cb (co+1) λv4=>
 ∀Jn4:dU,(∀H_23,(K (aB 0) H_23)->Jn4 H_23)->
 ID (v4<=v3) (
 ST H_22 cb (co+1+1) [(.bool false)] λH_24=>
 Jn4 H_24) (
 Jn4 H_22))->Jn3 H_22)->
 ID (v2<9223372036854775807) (
 aQ H_21 cb (co+1+2) λv5=>
 ST H_21 cb (co+1+2) [(aB (i64.wrap (v5+1)))] λH_25=>
 Jn3 H_25) (
 Jn3 H_21)) (
 ST H_21 cb (co+1+1) [(.bool true)] λH_26=>
 ST H_26 cb (co+1+2) [(aB 0)] λH_27=>
 ST H_27 cb (co+4) [(.slice none 0 0)] λH_28=>
 IA (i64.wrap ((gapsn:Int)-1)) gapsn gapsa λb7 o1=>
 rC H_28 b7 (o1+(i64.wrap ((gapsn:Int)-1)).toNat*2) λl6=>
 C_b 357 [(.agg ⟨l6⟩)] H_28 λr5 H_29=>
 ∀Jn5:dU,(∀H_30,(K (aB 21) H_30)->Jn5 H_30)->
 IF r5 (
 pR H_29 b 0 λl5=>
 AL H_29 l5 167 λb8 H_31=>
 ST H_31 cb (co+4) [(.slice (some ⟨b8,0,none⟩) 1 1)] λH_32=>
 Jn5 H_32) (
 Jn5 H_29)))
theorem OF(h :
 AL H (L_i4 a b c d) 167 λg j=>
 pR j g 0 λr=>
 C_b 348 [.agg ⟨r⟩] j λs e=>
 IF (!s) (
 K (aB 10) e) (
 dt e l (m+4) λk n o=>
 pR e g 0 λt=>
 AL e t 167 λu p=>
 aM p l (m+4)=some (.slice k n o)/\
 AP #[462,462] 462 (fO k n o (some ⟨u,0,none⟩) 1 1) p λv w x y=>
 ST y l (m+4) [.slice v w x] λf=>
 dt f l (m+4) λa8 z a9=>
 ∀i:dU,(∀q,yU.r7 l m K g q->i q)->
 ID (8<(z:Int)) (
 dt f l (m+4) λa0 a1 a2=>
 C_l 354 [.slice a0 a1 a2,aB 0,aB 1] f λa3 a4 a5 a6=>
 ST a6 l (m+4) [.slice a3 a4 a5] λa7=>
 i a7) (
 i f))):CF 254 ⟨(L_av l m (A_i4 a b c d))⟩ H K:=cE 0x1d12174912156123992512821749442132174921749c9121749c [[],[],[],[],[(8,sA),(9,sI)],[(5,sS),(48,sI)],[]] h
def yV.r2(sb so b:Nat)(Jn2:(Xa)->Nat->Nat->aC->Prop)(lista1:Xa)(listn1 listc1:Nat)(H_7:aC):Prop:=
 hZ H_7 sb (so+18) λv6=>
 aQ H_7 b 1 λv7=>
 C_p 338 [(PA sb so)] H_7 λr H_8=>
 aM H_8 b 1=some (aB v7)/\
 aM H_8 sb (so+18)=some (.map v6)/\
 MU 312 (.map v6) (aB v7) (.pointer r) H_8 λH_9=>
 cv H_9 sb (so+16) λv8=>
 aQ H_9 b 1 λv9=>
 aQ H_9 b 6 λv10=>
 C_i 353 (L_pi2 v8 v9 v10) H_9 λr11 H_10=>
 Jn2 lista1 listn1 listc1 H_10
theorem OG(h :
 AL H (yL a b c d e f g i j k a0 s n o) 169 λp x=>
 ∀b4:J_n2HP,(∀c8 c9 t,(∀b5:J_n2biHP,(∀b1 b2 d0 b3 z,(IN (b3=0) (
 K (V_ni b3) z) (
 aQ z p 6 λd9=>
 ST z l (m+9) [aB d9] λr=>
 ∀b6:El,(∀d1 d2 d3 w,(aQ w p 1 λe0=>
 aQ w b1 (b2+1) λv2=>
 aQ w b1 b2 λe1=>
 AL w (tC 1 e0 e1 v2 0 0 0 0 0 0 0 0 0 0 (⟨#[]⟩:Eq) 0 0 0 0 0 0 0 Z0) 428 λe2 e3=>
 AP #[292,292] 292 (fO d1 d2 d3 (some ⟨e2,0,none⟩) 1 1) e3 λe4 e5 e6 e7=>
 K (V_li e4 e5 e6 0) e7)->b6 d1 d2 d3 w)->
 IF d0 (
 hZ r l (m+18) λe8=>
 aQ r p 1 λe9=>
 LK_p 312 (.map e8) (aB e9) r λy=>
 ∀b7:El,(∀d4 d5 d6 d7,yV.r2 l m p b6 d4 d5 d6 d7->b7 d4 d5 d6 d7)->
 IF (!y.isNone) (
 NN y (
 cv r (aW y) ((aT y)+1) λf0=>
 C_l 287 [.pointer f0] r λf1 b9 k2 f2=>
 ∃(b8:nS) (d8:nT),b8 none 0 0 0 f2/\
 ∀a1 a2 a3 u q,b8 a1 a2 a3 u q->
 ID (u<b9) (
 IA u b9 f1 λf3 f4=>
 aQ q f3 (f4+u.toNat) λf5=>
 aQ q p 1 λf6=>
 aQ q c8 c9 λf7=>
 AL q (tC 3 0 0 0 0 0 f6 f7 f5 5 0 0 0 0 (⟨#[]⟩:Eq) 0 0 0 0 0 0 0 Z0) 428 λf8 f9=>
 AP #[292,292] 292 (fO a1 a2 a3 (some ⟨f8,0,none⟩) 1 1) f9 λc0 c1 c2 c3=>
 b8 c0 c1 c2 (i64.wrap (u+1)) c3/\d8 c0 c1 c2 (i64.wrap (u+1)) c3<d8 a1 a2 a3 u q) (
 cv q l (m+16) λg0=>
 aQ q p 1 λg1=>
 C_i 352 (gz g0 g1) q λA g2=>
 b7 a1 a2 a3 g2))) (
 b7 none 0 0 r)) (
 b6 none 0 0 r)))->b5 b1 b2 d0 b3 z)->
 cv t l (m+15) λa4=>
 aQ t p 1 λa5=>
 aQ t p 3 λa6=>
 aQ t p 6 λa7=>
 (Em 351 (L_pi3 a4 a5 a6 a7) t λg3 g4 g5 g6=>
 AL g6 (jK 0 0 0) 332 λc4 g7=>
 ST g7 c4 0 g3 λg8=>
 b5 c4 0 g4 g5 g8)/\
 (AL t (jK 0 0 0) 332 λc5 v=>
 aM v p 6=some (aB a7)/\
 aM v p 3=some (aB a6)/\
 aM v p 1=some (aB a5)/\
 aM v l (m+15)=some (.pointer a4)/\
 Em 351 (L_pi3 a4 a5 a6 a7) v λg9 i0 i1 i2=>
 ST i2 c5 0 g9 λi3=>
 b5 c5 0 i0 i1 i3))->b4 c8 c9 t)->
 cv x l (m+15) λa8=>
 aQ x p 1 λa9=>
 (yO 284 (gz a8 a9) x λi4 k3 i5=>
 AL i5 (jK 0 0 0) 332 λc6 i6=>
 ST i6 c6 0 i4 λi7=>
 b4 c6 0 i7)/\
 (AL x (jK 0 0 0) 332 λc7 b0=>
 aM b0 p 1=some (aB a9)/\
 aM b0 l (m+15)=some (.pointer a8)/\
 yO 284 (gz a8 a9) b0 λi9 k4 k0=>
 ST k0 c7 0 i9 λk1=>
 b4 c7 0 k1)):CF 253 ⟨(L_av l m (yN a b c d e f g i j k a0 s n o))⟩ H K:=cE 0x12828d1121721172156123992514449149c [[(11,sS),(64,sI)],[(11,sS)],[(11,sS)],[(8,sA),(9,sB),(10,sI)],[(6,sA)]] h
theorem OH(h :
 Q_b 327 (lS w x) H λa=>
 IF (!a) (
 K (V_sb w false) H) (
 (BD 0 (i64.wrap ((w.size:Int)-(x.size:Int))) w.size)/\
 K (V_sb (w.extract 0 ((i64.wrap ((w.size:Int)-(x.size:Int))).toNat)) true) H)):CF 214 ⟨(lS w x)⟩ H K:=cE 476 [] h
theorem OI(h :
 C_i 137 (lS w x) H λa b=>
 ID (0<=a) (
 (BD 0 a w.size)/\
 (BD (i64.wrap (a+(x.size:Int))) w.size w.size)/\
 K (V_s2b (w.extract 0 a.toNat) (w.extract ((i64.wrap (a+(x.size:Int))).toNat) w.size) true) b) (
 K (V_s2b w (⟨#[]⟩:Eq) false) b)):CF 213 ⟨(lS w x)⟩ H K:=cE 74172 [] h
theorem OJ(h :
 Q_i 313 [.int .u64 a] H λb=>
 K (aB (i64.wrap (64-b))) H):CF 202 ⟨[.int .u64 a]⟩ H K:=cE 28 [] h
theorem OK(h :
 AL H (lS w x) 48 λc e=>
 gA e c 1 λk=>
 ID (64<(k.size:Int)) (
 K (.bool false) e) (
 ∃(g:eQ) (j:jJ),g 0 e/\
 ∀a b,g a b->
 gA b c 1 λl=>
 ID (a<l.size) (
 gA b c 1 λv2=>
 (IX a v2.size)/\
 ∀f:J_bHP,(∀i d,(IF i (
 K (.bool false) d) (
 g (i64.wrap (a+1)) d/\j (i64.wrap (a+1)) d<j a b))->f i d)->
 JF (((decide ((bAt v2 a.toNat)<33))||(decide (126<(bAt v2 a.toNat))))=false) (
 C_i 132 (L_sy (⟨#[44,61,123,125]⟩:Eq) (bAt v2 a.toNat)) b λm n=>
 f (decide (0<=m)) n) (
 f true b)) (
 gA b c 0 λo=>
 Q_b 199 [.string o] b λr1=>
 K (.bool r1) b))):CF 200 ⟨[(A_s2 w x)]⟩ H K:=cE 0x1d215621399251283c94c [[(30,sB)],[(3,sI)]] h
theorem OL(h :
 ((((decide ((w.size:Int)<1))||(decide (64<(w.size:Int))))=false)->(IX 0 w.size))/\
 (((((decide ((w.size:Int)<1))||(decide (64<(w.size:Int))))||(decide ((bAt w 0)<97)))=false)->(IX 0 w.size))/\
 IF ((((decide ((w.size:Int)<1))||(decide (64<(w.size:Int))))||(decide ((bAt w 0)<97)))||(decide (122<(bAt w 0)))) (
 K (.bool false) H) (
 ∃(c:eQ) (d:jJ),c 0 H/\
 ∀a b,c a b->
 ID (a<w.size) (
 (IX a w.size)/\
 IF ((((decide ((bAt w a.toNat)<97))||(decide (122<(bAt w a.toNat))))&&((decide ((bAt w a.toNat)<48))||(decide (57<(bAt w a.toNat)))))&&(!decide ((bAt w a.toNat)=95))) (
 K (.bool false) b) (
 c (i64.wrap (a+1)) b/\d (i64.wrap (a+1)) b<d a b)) (
 K (.bool true) b))):CF 199 ⟨[.string w]⟩ H K:=cE 0x1d215621399251b4c [[(3,sI)]] h
theorem OM(h :
 ID (a<0) (
 K (aB 0) H) (
 ID (a=0) (
 K (aB 1) H) (
 Q_i 313 [.int .u64 (u64.wrap a)] H λb=>
 K (aB (i64.wrap ((i64.wrap (2+b))-1))) H))):CF 197 ⟨[aB a]⟩ H K:=cE 307313852 [] h
theorem ON(h :
 AL H (bU .i64 z 65 0) 157 λd e=>
 AL e (lQ 0 0) 155 λa f=>
 (BD 0 65 65)/\
 CF 312 ⟨[.slice (bM (some ⟨d,0,none⟩) 0 65 1) 65 65]⟩ f λg i=>∃c r1,g=(A_iu c r1)/\
 ST i a 0 (lQ c r1) λb=>
 r9 b a 0 λj=>
 K (.agg ⟨j⟩) b):CF 195 ⟨[(A_Vi65_ z)]⟩ H K:=cE 28 [] h
theorem OO(h :
 AL H Eo 336 λe t=>
 cv t l (m+15) λx=>
 yO 284 (gz x a) t λy z a0=>
 AL a0 (jK 0 0 0) 332 λf a1=>
 ST a1 f 0 y λr=>
 IF (!z) (
 ST r e 0 Eo λu=>
 Ep u e 0 λa2=>
 K (lR (.agg ⟨a2⟩) false) u) (
 cv r l (m+16) λa3=>
 Ei 285 (gz a3 a) r λa4 r4 a5=>
 AL a5 ZL_ib3 334 λg a6=>
 ST a6 g 0 a4 λc=>
 hZ c l (m+18) λv2=>
 LK_p 312 (.map v2) (aB a) c λb=>
 ∃c0 j k,bV c f 0 (jK c0 j k)/\
 ∃n o p q,bV c g 0 (L_ib3 n o p q)/\
 NN b (
 aQ c (aW b) ((aT b)+2) λs=>
 NN b (
 cv c (aW b) ((aT b)+1) λa7=>
 Q_i 286 [.pointer a7] c λr5=>
 NN b (
 cv c (aW b) ((aT b)+1) λa8=>
 NN b (
 cv c (aW b) (aT b) λv=>
 C_l 287 [.pointer a8] c λb2 a9 b3 d=>
 aM d (aW b) (aT b)=some (.pointer v)/\
 aM d (aW b) ((aT b)+2)=some (aB s)/\
 bV d g 0 (L_ib3 n o p q)/\
 bV d f 0 (jK c0 j k)/\
 C_l 288 [.pointer v] d λb4 b0 b5 i=>
 aM i (aW b) ((aT b)+2)=some (aB s)/\
 bV i g 0 (L_ib3 n o p q)/\
 bV i f 0 (jK c0 j k)/\
 ST i e 0 (L_i4b3i4 c0 j k n o p q s r5 a9 b0) λw=>
 Ep w e 0 λb1=>
 K (lR (.agg ⟨b1⟩) true) w)))))):CF 172 ⟨(kV l m a)⟩ H K:=cE 1167644 [] h
theorem OP(h :
 Og H l m λc0 a7 a8 a9 b0 b1 b2 b3 b4 b5 b6 b7 b8 b9 c1 c2 c3 c4 c5 c6 c7 c8=>
 AL H [aB 0,aB 0,aB 0,aB 0,aB 0,aB 0,aB 0,aB 0,aB 0,aB 0,aB 0,aB 0,aB 0,aB 0,aB 0,.pointer none,.pointer none,.pointer none,.map none,.slice none 0 0] 314 λa c9=>
 ST c9 a 0 [aB c0,aB a7,aB a8,aB a9,aB b0,aB b1,aB b2,aB b3,aB b4,aB b5,aB b6,aB b7,aB b8,aB b9,aB c1,.pointer c2,.pointer c3,.pointer c4,.map c5,.slice c6 c7 c8] λe=>
 cv e l (m+15) λd0=>
 cv e l (m+16) λv=>
 cv e l (m+17) λv2=>
 C_p 262 [.pointer d0] e λd1 q=>
 aM q l (m+17)=some (.pointer v2)/\
 aM q l (m+16)=some (.pointer v)/\
 C_p 263 [.pointer v] q λr1 w=>
 aM w l (m+17)=some (.pointer v2)/\
 C_p 264 [.pointer v2] w λr2 d2=>
 ST d2 a 15 [.pointer d1] λd3=>
 ST d3 a 16 [.pointer r1] λd4=>
 ST d4 a 17 [.pointer r2] λx=>
 dt x l (m+19) λd5 d6 d7=>
 C_l 245 [.slice d5 d6 d7] x λd8 d9 e0 e1=>
 ST e1 a 19 [.slice d8 d9 e0] λe2=>
 NM e2 λe3 e4=>
 ST e4 a 18 [.map (some e3)] λy=>
 hZ y l (m+18) λe5=>
 bS Tryz.prog (Instr.range 312 (.map e5)) y λe6 e7=>
 ∃n:Nat,e6=.pointer (some ⟨n,0,none⟩)/\
 ∃(o:dU) (p:J_Hn),o e7/\
 ∀k,o k->
 bS Tryz.prog (Instr.next (PA n 0) false 0) k λz d=>
 (z=(.tuple #[.bool false])/\
 IF false (
 ∃a6,∃b,cZ Tryz.prog (Instr.entry (PA n 0)) d (V_ip a6 b)/\
 hZ d a 18 λf=>
 NN b (
 cv d (aW b) (aT b) λe8=>
 NN b (
 cv d (aW b) ((aT b)+1) λa0=>
 NN b (
 aQ d (aW b) ((aT b)+2) λr=>
 C_p 265 [.pointer e8] d λr3 g=>
 aM g (aW b) ((aT b)+2)=some (aB r)/\
 aM g (aW b) ((aT b)+1)=some (.pointer a0)/\
 aM g a 18=some (.map f)/\
 C_p 266 [.pointer a0] g λr4 s=>
 aM s (aW b) ((aT b)+2)=some (aB r)/\
 aM s a 18=some (.map f)/\
 AL s (L_p2i r3 r4 r) 421 λe9 a1=>
 aM a1 a 18=some (.map f)/\
 MU 312 (.map f) (aB a6) (PA e9 0) a1 λa2=>
 o a2/\p a2<p k)))) (
 K (PA a 0) d))\/
 (∃k1 f2:Value,z=(.tuple #[.bool true,k1,f2])/\
 IF true (
 ∃k2,∃c,cZ Tryz.prog (Instr.entry (PA n 0)) d (V_ip k2 c)/\
 hZ d a 18 λi=>
 NN c (
 cv d (aW c) (aT c) λf0=>
 NN c (
 cv d (aW c) ((aT c)+1) λa3=>
 NN c (
 aQ d (aW c) ((aT c)+2) λt=>
 C_p 265 [.pointer f0] d λr5 j=>
 aM j (aW c) ((aT c)+2)=some (aB t)/\
 aM j (aW c) ((aT c)+1)=some (.pointer a3)/\
 aM j a 18=some (.map i)/\
 C_p 266 [.pointer a3] j λA u=>
 aM u (aW c) ((aT c)+2)=some (aB t)/\
 aM u a 18=some (.map i)/\
 AL u (L_p2i r5 A t) 421 λf1 a4=>
 aM a4 a 18=some (.map i)/\
 MU 312 (.map i) (aB k2) (PA f1 0) a4 λa5=>
 o a5/\p a5<p k)))) (
 K (PA a 0) d))):CF 152 ⟨[PA l m]⟩ H K:=cE 0x11111215612399514c [[]] h
theorem OQ(h :
 IF ((decide ((x.size:Int)=0))||(x.toList == w.toList)) (
 K (aB 0) H) (
 ID ((x.size:Int)=1) (
 (IX 0 x.size)/\
 C_i 216 (L_sy w (bAt x 0)) H λk l=>
 K (aB k) l) (
 ID ((w.size:Int)<=(x.size:Int)) (
 K (aB (-1)) H) (
 aQ H 3 0 λm=>
 IF ((decide (x.size<=m))&&(decide ((w.size:Int)<=64))) (
 False) (
 (IX 0 x.size)/\
 (IX 1 x.size)/\
 ∃(f:pQ) (j:tB),f 0 0 H/\
 ∀b c d,f b c d->
 ID (b<(i64.wrap ((i64.wrap ((w.size:Int)-(x.size:Int)))+1))) (
 (IX b w.size)/\
 ∀e:eQ,(∀i1 a,((IX (i64.wrap (i1+1)) w.size)/\
 (((decide ((bAt w (i64.wrap (i1+1)).toNat)=(bAt x 1)))=true)->(BD i1 (i64.wrap (i1+(x.size:Int))) w.size))/\
 IF ((decide ((bAt w (i64.wrap (i1+1)).toNat)=(bAt x 1)))&&((w.extract i1.toNat ((i64.wrap (i1+(x.size:Int))).toNat)).toList == x.toList)) (
 K (aB i1) a) (
 aQ a 3 0 λg=>
 ∃r1,(((decide (x.size<=g))=true)->CQ 220 #[aB (i64.wrap (i1+1))] a (aB r1))/\
 IF ((decide (x.size<=g))&&(decide (r1<(i64.wrap (c+1))))) (
 (BD (i64.wrap (i1+1)) w.size w.size)/\
 False) (
 aQ a 3 0 λv2=>
 (((decide (v2<x.size))=true)->((0:Int)<=4))/\
 IF (((decide (v2<x.size))&&(decide ((i64.wrap (4+(Int.fdiv (i64.wrap (i1+1)) (2^(min (Int.toNat 4) (i64.bits))))))<=(i64.wrap (c+1)))))&&(decide ((i64.wrap (i1+1))<(i64.wrap ((i64.wrap ((w.size:Int)-(x.size:Int)))+1))))) (
 (BD (i64.wrap (i1+1)) w.size w.size)/\
 Q_i 221 (lS (w.extract ((i64.wrap (i1+1)).toNat) w.size) x) a λr2=>
 ID (r2<0) (
 K (aB (-1)) a) (
 K (aB (i64.wrap ((i64.wrap (i1+1))+r2))) a)) (
 f (i64.wrap (i1+1)) (i64.wrap (c+1)) a/\j (i64.wrap (i1+1)) (i64.wrap (c+1)) a<j b c d))))->e i1 a)->
 IN ((bAt w b.toNat)=(bAt x 0)) (
 (BD (i64.wrap (b+1)) (i64.wrap ((i64.wrap ((w.size:Int)-(x.size:Int)))+1)) w.size)/\
 C_i 216 (L_sy (w.extract ((i64.wrap (b+1)).toNat) ((i64.wrap ((i64.wrap ((w.size:Int)-(x.size:Int)))+1)).toNat)) (bAt x 0)) d λr3 i=>
 ID (r3<0) (
 K (aB (-1)) i) (
 e (i64.wrap (b+(i64.wrap (r3+1)))) i)) (
 e b d)) (
 K (aB (-1)) d)))))):CF 137 ⟨(lS w x)⟩ H K:=cE 0x112513c13c13cb111112562139952171d49d11131dc131dc9c [[(8,sI)],[(8,sI),(10,sI)]] h
def kW.r1(hi lo y:Int)(K:KQ)(r q1 q0:Int)(H_3:aC):Prop:=
 ((0:Int)<=(u64.wrap r))/\
 K (V_u2 (u64.wrap ((u64.wrap (q1*4294967296))+q0)) (Int.fdiv (u64.wrap ((u64.wrap ((u64.wrap ((u64.wrap ((u64.wrap ((u64.wrap ((aX .or .u64 (u64.wrap (hi*2^(min (Int.toNat (u64.wrap r)) (u64.bits)))) (Int.fdiv lo (2^(min (Int.toNat (u64.wrap (64-(u64.wrap r)))) (u64.bits)))))*4294967296))+(Int.fdiv (u64.wrap (lo*2^(min (Int.toNat (u64.wrap r)) (u64.bits)))) (2^(min (Int.toNat 32) (u64.bits))))))-(u64.wrap (q1*(u64.wrap (y*2^(min (Int.toNat (u64.wrap r)) (u64.bits))))))))*4294967296))+(aX .and .u64 (u64.wrap (lo*2^(min (Int.toNat (u64.wrap r)) (u64.bits)))) 4294967295)))-(u64.wrap (q0*(u64.wrap (y*2^(min (Int.toNat (u64.wrap r)) (u64.bits)))))))) (2^(min (Int.toNat (u64.wrap r)) (u64.bits))))) H_3
def kW.r3(hi lo y:Int)(K:KQ)(r q1:Int)(H_2:aC):Prop:=
 ((Int.fdiv (u64.wrap (y*2^(min (Int.toNat (u64.wrap r)) (u64.bits)))) (2^(min (Int.toNat 32) (u64.bits))))≠0)/\
 ∀Jn3:eQ,(∀q0 H_3,kW.r1 hi lo y K r q1 q0 H_3->Jn3 q0 H_3)->
 ∃(Inv:pQ) (mu:tB),Inv (u64.wrap ((u64.wrap ((u64.wrap ((u64.wrap ((aX .or .u64 (u64.wrap (hi*2^(min (Int.toNat (u64.wrap r)) (u64.bits)))) (Int.fdiv lo (2^(min (Int.toNat (u64.wrap (64-(u64.wrap r)))) (u64.bits)))))*4294967296))+(Int.fdiv (u64.wrap (lo*2^(min (Int.toNat (u64.wrap r)) (u64.bits)))) (2^(min (Int.toNat 32) (u64.bits))))))-(u64.wrap (q1*(u64.wrap (y*2^(min (Int.toNat (u64.wrap r)) (u64.bits))))))))-(u64.wrap ((u64.wrap (Int.tdiv (u64.wrap ((u64.wrap ((u64.wrap ((aX .or .u64 (u64.wrap (hi*2^(min (Int.toNat (u64.wrap r)) (u64.bits)))) (Int.fdiv lo (2^(min (Int.toNat (u64.wrap (64-(u64.wrap r)))) (u64.bits)))))*4294967296))+(Int.fdiv (u64.wrap (lo*2^(min (Int.toNat (u64.wrap r)) (u64.bits)))) (2^(min (Int.toNat 32) (u64.bits))))))-(u64.wrap (q1*(u64.wrap (y*2^(min (Int.toNat (u64.wrap r)) (u64.bits)))))))) (Int.fdiv (u64.wrap (y*2^(min (Int.toNat (u64.wrap r)) (u64.bits)))) (2^(min (Int.toNat 32) (u64.bits))))))*(Int.fdiv (u64.wrap (y*2^(min (Int.toNat (u64.wrap r)) (u64.bits)))) (2^(min (Int.toNat 32) (u64.bits)))))))) (u64.wrap (Int.tdiv (u64.wrap ((u64.wrap ((u64.wrap ((aX .or .u64 (u64.wrap (hi*2^(min (Int.toNat (u64.wrap r)) (u64.bits)))) (Int.fdiv lo (2^(min (Int.toNat (u64.wrap (64-(u64.wrap r)))) (u64.bits)))))*4294967296))+(Int.fdiv (u64.wrap (lo*2^(min (Int.toNat (u64.wrap r)) (u64.bits)))) (2^(min (Int.toNat 32) (u64.bits))))))-(u64.wrap (q1*(u64.wrap (y*2^(min (Int.toNat (u64.wrap r)) (u64.bits)))))))) (Int.fdiv (u64.wrap (y*2^(min (Int.toNat (u64.wrap r)) (u64.bits)))) (2^(min (Int.toNat 32) (u64.bits)))))) H_2/\
 ∀rhat q0_1 H_4,Inv rhat q0_1 H_4->
 IF ((decide (4294967296<=q0_1))||(decide ((u64.wrap ((u64.wrap (4294967296*rhat))+(aX .and .u64 (u64.wrap (lo*2^(min (Int.toNat (u64.wrap r)) (u64.bits)))) 4294967295)))<(u64.wrap (q0_1*(aX .and .u64 (u64.wrap (y*2^(min (Int.toNat (u64.wrap r)) (u64.bits)))) 4294967295)))))) (
 ID (4294967296<=(u64.wrap (rhat+(Int.fdiv (u64.wrap (y*2^(min (Int.toNat (u64.wrap r)) (u64.bits)))) (2^(min (Int.toNat 32) (u64.bits))))))) (
 Jn3 (u64.wrap (q0_1-1)) H_4) (
 Inv (u64.wrap (rhat+(Int.fdiv (u64.wrap (y*2^(min (Int.toNat (u64.wrap r)) (u64.bits)))) (2^(min (Int.toNat 32) (u64.bits)))))) (u64.wrap (q0_1-1)) H_4/\mu (u64.wrap (rhat+(Int.fdiv (u64.wrap (y*2^(min (Int.toNat (u64.wrap r)) (u64.bits)))) (2^(min (Int.toNat 32) (u64.bits)))))) (u64.wrap (q0_1-1)) H_4<mu rhat q0_1 H_4)) (
 Jn3 q0_1 H_4)
def kW.r5(hi lo y:Int)(K:KQ)(H_1:aC):Prop:=
 ID (hi=0) (
 (y≠0)/\
 (y≠0)/\
 K (V_u2 (u64.wrap (Int.tdiv lo y)) (Int.tmod lo y)) H_1) (
 Q_i 202 [(.int .u64 y)] H_1 λr=>
 ((0:Int)<=(u64.wrap r))/\
 ((0:Int)<=32)/\
 ((0:Int)<=(u64.wrap r))/\
 ((0:Int)<=(u64.wrap (64-(u64.wrap r))))/\
 ((0:Int)<=(u64.wrap r))/\
 ((0:Int)<=32)/\
 ((Int.fdiv (u64.wrap (y*2^(min (Int.toNat (u64.wrap r)) (u64.bits)))) (2^(min (Int.toNat 32) (u64.bits))))≠0)/\
 ∀Jn2:eQ,(∀q1 H_2,kW.r3 hi lo y K r q1 H_2->Jn2 q1 H_2)->
 ∃(Inv1:pQ) (mu1:tB),Inv1 (u64.wrap (Int.tdiv (aX .or .u64 (u64.wrap (hi*2^(min (Int.toNat (u64.wrap r)) (u64.bits)))) (Int.fdiv lo (2^(min (Int.toNat (u64.wrap (64-(u64.wrap r)))) (u64.bits))))) (Int.fdiv (u64.wrap (y*2^(min (Int.toNat (u64.wrap r)) (u64.bits)))) (2^(min (Int.toNat 32) (u64.bits)))))) (u64.wrap ((aX .or .u64 (u64.wrap (hi*2^(min (Int.toNat (u64.wrap r)) (u64.bits)))) (Int.fdiv lo (2^(min (Int.toNat (u64.wrap (64-(u64.wrap r)))) (u64.bits)))))-(u64.wrap ((u64.wrap (Int.tdiv (aX .or .u64 (u64.wrap (hi*2^(min (Int.toNat (u64.wrap r)) (u64.bits)))) (Int.fdiv lo (2^(min (Int.toNat (u64.wrap (64-(u64.wrap r)))) (u64.bits))))) (Int.fdiv (u64.wrap (y*2^(min (Int.toNat (u64.wrap r)) (u64.bits)))) (2^(min (Int.toNat 32) (u64.bits))))))*(Int.fdiv (u64.wrap (y*2^(min (Int.toNat (u64.wrap r)) (u64.bits)))) (2^(min (Int.toNat 32) (u64.bits)))))))) H_1/\
 ∀q1_1 rhat1 H_5,Inv1 q1_1 rhat1 H_5->
 IF ((decide (4294967296<=q1_1))||(decide ((u64.wrap ((u64.wrap (4294967296*rhat1))+(Int.fdiv (u64.wrap (lo*2^(min (Int.toNat (u64.wrap r)) (u64.bits)))) (2^(min (Int.toNat 32) (u64.bits))))))<(u64.wrap (q1_1*(aX .and .u64 (u64.wrap (y*2^(min (Int.toNat (u64.wrap r)) (u64.bits)))) 4294967295)))))) (
 ID (4294967296<=(u64.wrap (rhat1+(Int.fdiv (u64.wrap (y*2^(min (Int.toNat (u64.wrap r)) (u64.bits)))) (2^(min (Int.toNat 32) (u64.bits))))))) (
 Jn2 (u64.wrap (q1_1-1)) H_5) (
 Inv1 (u64.wrap (q1_1-1)) (u64.wrap (rhat1+(Int.fdiv (u64.wrap (y*2^(min (Int.toNat (u64.wrap r)) (u64.bits)))) (2^(min (Int.toNat 32) (u64.bits)))))) H_5/\mu1 (u64.wrap (q1_1-1)) (u64.wrap (rhat1+(Int.fdiv (u64.wrap (y*2^(min (Int.toNat (u64.wrap r)) (u64.bits)))) (2^(min (Int.toNat 32) (u64.bits)))))) H_5<mu1 q1_1 rhat1 H_5)) (
 Jn2 q1_1 H_5))
theorem OR(h :
 ∀g:dU,(∀d,(∀i:dU,(∀e,kW.r5 a b c K e->i e)->
 ID (c<=a) (
 ∃f,aM d 2 0=some f/\
 panP f (λ(j:Value) (k:aC)=>False) d) (
 i d))->g d)->
 ID (c=0) (
 ∃v2,aM H 1 0=some v2/\
 panP v2 (λ(l:Value) (m:aC)=>False) H) (
 g H)):CF 124 ⟨(L_u3 a b c)⟩ H K:=cE 0x12174921749d11111111112a62139951113991112a6213995111399c [[(16,sU),(18,sU)],[(18,sU)],[(15,sU),(16,sU)],[(15,sU)],[],[]] h
theorem OS(h :
 AL H (L_sl w s l m) 37 λe b=>
 gA b e 0 λr=>
 Q_b 199 [.string r] b λi=>
 gd_l ((!i)=false) b e 1 λa3 t a4=>
 IF ((!i)||(decide (8<(t:Int)))) (
 K (.bool false) b) (
 dt b e 1 λu j a5=>
 ∃(g:eQ) (q:jJ),g 0 b/\
 ∀a d,g a d->
 ID (a<j) (
 IA a j u λv x=>
 Er d v (x+a.toNat*2) λy=>
 AL d (lS (⟨#[]⟩:Eq) (⟨#[]⟩:Eq)) 48 λf z=>
 ST z f 0 y λk=>
 Er k f 0 λa0=>
 C_b 200 [.agg ⟨a0⟩] k λr1 c=>
 gd_l (((!r1)=false)/\(decide (0<a))=true) c e 1 λa1 a2 a6=>
 ((((!r1)=false)/\(decide (0<a))=true)->(IX (i64.wrap (a-1)) a2))/\∃o p:Nat,((((!r1)=false)/\(decide (0<a))=true)->(a1=some ⟨o,p,none⟩))/\
 ∃n,((((!r1)=false)/\(decide (0<a))=true)->aM c o (p+(i64.wrap (a-1)).toNat*2)=some (.string n))/\
 ∃v2,((((!r1)=false)/\(decide (0<a))=true)->aM c f 0=some (.string v2))/\
 IF ((!r1)||((decide (0<a))&&(!Op.bytesLess n.toList v2.toList))) (
 K (.bool false) c) (
 g (i64.wrap (a+1)) c/\q (i64.wrap (a+1)) c<q a d)) (
 K (.bool true) d))):CF 122 ⟨[(A_sl w s l m)]⟩ H K:=cE 0x1d215612399251b4c [[(18,sI)]] h
theorem OT(h :
 AL H (lQ 0 0) 155 λe g=>
 IN ((l:Int)=16) (
 ST g e 0 (lQ 0 0) λi=>
 r9 i e 0 λp=>
 K (lR (.agg ⟨p⟩) false) i) (
 ∃(f:J_i3HP) (o:J_i3Hn),f 0 0 0 g/\
 ∀c d a b,f c d a b->
 ID (a<8) (
 ((0:Int)<=8)/\
 IA a l s λq r=>
 rd_y b q (r+a.toNat) λj=>
 ((0:Int)<=8)/\
 IA (i64.wrap (8+a)) l s λt u=>
 rd_y b t (u+(i64.wrap (8+a)).toNat) λk=>
 f (aX .or .u64 (u64.wrap (c*2^(min (Int.toNat 8) (u64.bits)))) (u64.wrap j)) (aX .or .u64 (u64.wrap (d*2^(min (Int.toNat 8) (u64.bits)))) (u64.wrap k)) (i64.wrap (a+1)) b/\o (aX .or .u64 (u64.wrap (c*2^(min (Int.toNat 8) (u64.bits)))) (u64.wrap j)) (aX .or .u64 (u64.wrap (d*2^(min (Int.toNat 8) (u64.bits)))) (u64.wrap k)) (i64.wrap (a+1)) b<o c d a b) (
 ST b e 0 (lQ (i64.wrap c) d) λn=>
 r9 n e 0 λv=>
 K (lR (.agg ⟨v⟩) true) n))):CF 119 ⟨[.slice s l m]⟩ H K:=cE 0x1d1215612399251144c [[(4,sU),(5,sU),(11,sI)]] h
def tE.r1(rb ro:Nat)(K:KQ)(r r1 err:Int)(H_:aC):Prop:=
 dt H_ rb ro λva2 vn2 vc2=>
 C_b 192 (L_ai2 rb ro (i64.wrap (r1+r)) err) H_ λr3 H_1=>
 IF (!r3) (
 K (.string (⟨#[]⟩:Eq)) H_1) (
 (BD r1 (i64.wrap (r1+r)) vc2)/\
 ∃s:Eq,cZ Tryz.prog (convert 38 9 (.slice (bM va2 r1.toNat vc2 1) (((i64.wrap (r1+r)).toNat)-r1.toNat) (vc2-r1.toNat))) H_1 (.string s)/\
 K (.string s) H_1)
theorem OU(h :
 dt H l m λf g i=>
 ∃b r1 r2,CQ 194 #[.slice f g i,aB a] H (V_i3 b r1 r2)/\
 (((decide (r2=0))=true)->True)/\
 gd_l ((decide (r2=0))=true) H l m λk j n=>
 ∀c:eQ,(∀d e,tE.r1 l m K b r1 d e->c d e)->
 IF ((decide (r2=0))&&(decide ((i64.wrap ((j:Int)-r1))<b))) (
 c 15 H) (
 c r2 H)):CF 116 ⟨(kV l m a)⟩ H K:=cE 73575731676 [[(7,sI)]] h
theorem OV(h :
 ID ((l:Int)<4) (
 K (V_ni 15) H) (
 (BD 0 (i64.wrap ((l:Int)-4)) m)/\
 (BD (i64.wrap ((l:Int)-4)) l m)/\
 IA 0 ((l-((i64.wrap ((l:Int)-4)).toNat):Nat):Int) (bM s ((i64.wrap ((l:Int)-4)).toNat) m 1) λc d=>
 rd_y H c (d+0) λe=>
 IA 1 ((l-((i64.wrap ((l:Int)-4)).toNat):Nat):Int) (bM s ((i64.wrap ((l:Int)-4)).toNat) m 1) λf g=>
 rd_y H f (g+1) λi=>
 ((0:Int)<=8)/\
 IA 2 ((l-((i64.wrap ((l:Int)-4)).toNat):Nat):Int) (bM s ((i64.wrap ((l:Int)-4)).toNat) m 1) λj k=>
 rd_y H j (k+2) λv2=>
 ((0:Int)<=16)/\
 IA 3 ((l-((i64.wrap ((l:Int)-4)).toNat):Nat):Int) (bM s ((i64.wrap ((l:Int)-4)).toNat) m 1) λn o=>
 rd_y H n (o+3) λp=>
 ((0:Int)<=24)/\
 AL H [(.slice (bM s 0 m 1) ((i64.wrap ((l:Int)-4)).toNat) m)] 38 λq a=>
 ∃b,CQ 182 #[.slice (some ⟨q,0,none⟩) 1 1] a (.int .u32 b)/\
 IN ((aX .or .u32 (aX .or .u32 (aX .or .u32 (u32.wrap e) (u32.wrap ((u32.wrap i)*2^(min (Int.toNat 8) (u32.bits))))) (u32.wrap ((u32.wrap v2)*2^(min (Int.toNat 16) (u32.bits))))) (u32.wrap ((u32.wrap p)*2^(min (Int.toNat 24) (u32.bits)))))=b) (
 K (V_ni 14) a) (
 C_l 97 [(.slice (bM s 0 m 1) ((i64.wrap ((l:Int)-4)).toNat) m)] a λr t u v=>
 K (V_li r t u 0) v))):CF 111 ⟨[.slice s l m]⟩ H K:=cE 1905116 [] h
def Eu.y1(b1 b2 b3:Nat)(H_8:aC)(R:Loop)(vs:Xb)(H_9:aC)(K_:KQ):Prop:=
 ∃y y0 y1a y1n y1c,vs=(L_iv y (A_il y0 y1a y1n y1c))/\
 H_9[H_8.size+1]?=some (.loop R)/\
 AL H_9 (L_in 0) 278 λb4 H_10=>
 ST H_10 b4 0 (L_il y0 y1a y1n y1c) λH_11=>
 H_11[H_8.size+1]?=some (.loop R)/\
 ∀H_12:aC,H_12=iQ H_11 (H_8.size+1) { R with state:=.busy }->
 aQ H_12 b4 0 λv=>
 ID (v=0) (
 dt H_12 b4 1 λva2 vn2 vc2=>
 ST H_12 b2 0 [(.slice va2 vn2 vc2)] λH_13=>
 ST H_13 b2 1 [(.bool true)] λH_14=>
 dt H_14 b1 0 λva3 vn3 vc3=>
 (BD (i64.wrap (y+1)) vn3 vc3)/\
 ST H_14 b3 0 [(.slice (bM va3 ((i64.wrap (y+1)).toNat) vc3 2) (vn3-((i64.wrap (y+1)).toNat)) (vc3-((i64.wrap (y+1)).toNat)))] λH_15=>
 H_15[H_8.size+1]?=some (.loop { R with state:=.busy })/\K_ (.bool false) (iQ H_15 (H_8.size+1) { R with state:=.done,pending:=some (.exit 0) })) (
 H_12[H_8.size+1]?=some (.loop { R with state:=.busy })/\K_ (.bool true) (iQ H_12 (H_8.size+1) R))
theorem OW(h :
 AL H kU 159 λb d1=>
 C_p 113 [.slice s l m] d1 λc d2=>
 C_u 114 [.pointer c] d2 λr1 d3=>
 C_u 114 [.pointer c] d3 λr2 d4=>
 C_u 114 [.pointer c] d4 λr3 d5=>
 AL d5 (L_u3 0 0 0) 246 λn d6=>
 ST d6 n 0 (L_u3 r1 r2 r3) λd7=>
 C_i 115 [.pointer c] d7 λr4 d8=>
 C_i 115 [.pointer c] d8 λr5 d9=>
 CF 116 ⟨(gz c 16)⟩ d9 λe0 e1=>∃C,e0=(.string C)/\
 C_i 117 (gz c 65) e1 λr7 e2=>
 ∃(z:nS) (c8:nT),z none 0 0 0 e2/\
 ∀o i y p q,z o i y p q->
 ID (p<r7) (
 C_u 114 [.pointer c] q λe3 e4=>
 C_u 114 [.pointer c] e4 λe5 e6=>
 AL e6 (L_u2 e3 e5) 249 λe7 e8=>
 AP #[247,247] 247 (fO o i y (some ⟨e7,0,none⟩) 1 1) e8 λa2 a3 a4 a5=>
 z a2 a3 a4 (i64.wrap (p+1)) a5/\c8 a2 a3 a4 (i64.wrap (p+1)) a5<c8 o i y p q) (
 C_i 118 [.pointer c] q λa6 r=>
 IN (a6=0) (
 ST r b 0 kU λa7=>
 mX a7 b 0 λe9=>
 K (gl (.agg ⟨e9⟩) a6) a7) (
 rd_Au3_ r n 0 λc0 f0 f1=>
 ∃(a0:eQ) (c9:jJ),a0 0 r/\
 ∀j e,a0 j e->
 ID (j<3) (
 ∃b7,mL Tryz.prog (Instr.index 246 (.agg ⟨[.int .u64 c0,.int .u64 f0,.int .u64 f1]⟩) (aB j)) (.int .u64 b7)/\
 ID (9223372036854775807<b7) (
 ST e b 0 kU λa8=>
 mX a8 b 0 λf2=>
 K (gl (.agg ⟨f2⟩) 10) a8) (
 a0 (i64.wrap (j+1)) e/\c9 (i64.wrap (j+1)) e<c9 j e)) (
 (IX 0 3)/\
 rd_u e n (0+0) λf3=>
 (IX 1 3)/\
 rd_u e n (0+1) λf4=>
 (IX 2 3)/\
 rd_u e n (0+2) λv2=>
 AL e kU 159 λf f5=>
 ST f5 f 0 (tA (i64.wrap f3) 0 0 0 0 (i64.wrap f4) (i64.wrap v2) Z0) λf6=>
 ST f6 f 3 [aB r4] λf7=>
 ST f7 f 4 [aB r5] λf8=>
 bS Tryz.prog (convert 9 38 (.string C)) f8 λf9 g0=>
 ∃b8 b9 c1,f9=(.slice b8 b9 c1)/\
 CF 119 ⟨[.slice b8 b9 c1]⟩ g0 λg1 g2=>∃c2 c3 A,g1=(lR (A_iu c2 c3) A)/\
 AL g2 (lQ 0 0) 155 λa9 g3=>
 ST g3 a9 0 (lQ c2 c3) λt=>
 IF (!A) (
 ST t b 0 kU λb0=>
 mX b0 b 0 λg4=>
 K (gl (.agg ⟨g4⟩) 10) b0) (
 r9 t a9 0 λg5=>
 ST t f 1 g5 λg6=>
 ∃(a1:eQ) (d0:jJ),a1 0 g6/\
 ∀a k,a1 a k->
 ID (a<i) (
 IA a i o λg7 g8=>
 ∃c4 c5,bV k g7 (g8+a.toNat*2) (L_u2 c4 c5)/\
 AL k (L_u2 0 0) 249 λg g9=>
 ST g9 g 0 (L_u2 c4 c5) λd=>
 (((decide (0<a))=true)->(IX 0 2))/\
 gd_u ((decide (0<a))=true) d g (0+0) λu=>
 (((decide (0<a))=true)->(IX (i64.wrap (a-1)) i))/\∃c6 c7:Nat,(((decide (0<a))=true)->(o=some ⟨c6,c7,none⟩))/\
 (((decide (0<a))=true)->(IX 0 2))/\
 gd_u ((decide (0<a))=true) d c6 (c7+(i64.wrap (a-1)).toNat*2+0) λv=>
 ((((decide (0<a))&&(decide (u<=v)))=false)->(IX 0 2))/\
 gd_u (((decide (0<a))&&(decide (u<=v)))=false) d g (0+0) λi0=>
 IF (((decide (0<a))&&(decide (u<=v)))||(decide (65<=i0))) (
 ST d b 0 kU λb1=>
 mX b1 b 0 λi1=>
 K (gl (.agg ⟨i1⟩) 10) b1) (
 (IX 1 2)/\
 rd_u d g (0+1) λw=>
 (((decide (w=0))=false)->(IX 1 2))/\
 gd_u ((decide (w=0))=false) d g (0+1) λi2=>
 IF ((decide (w=0))||(decide (9223372036854775807<i2))) (
 ST d b 0 kU λb2=>
 mX b2 b 0 λi3=>
 K (gl (.agg ⟨i3⟩) 10) b2) (
 (IX 0 2)/\
 rd_u d g (0+0) λb3=>
 (IX 1 2)/\
 rd_u d g (0+1) λi4=>
 (IX b3 65)/\
 ST d f (7+b3.toNat) [aB (i64.wrap i4)] λb4=>
 a1 (i64.wrap (a+1)) b4/\d0 (i64.wrap (a+1)) b4<d0 a k))) (
 mX k f 0 λi5=>
 C_b 120 [.agg ⟨i5⟩] k λB x=>
 IF (!B) (
 ST x b 0 kU λb5=>
 mX b5 b 0 λi6=>
 K (gl (.agg ⟨i6⟩) 10) b5) (
 mX x f 0 λi7=>
 ST x b 0 i7 λb6=>
 mX b6 b 0 λi9=>
 K (gl (.agg ⟨i9⟩) 0) b6))))))):CF 61 ⟨[.slice s l m]⟩ H K:=cE 0x111111215612399254421b215612399251b4111d1215612399251dd44dc [[(87,sI)],[(53,sI)],[(9,sS),(35,sI)]] h
end
def rD.code(c0b c0o c1b c1o:Nat)(rv:Value)(H:aC)(K:aC->Prop):Prop:=
 ∃eq:Bool,fH Tryz.prog .eql 20 rv .nilIface eq/\
 ∀Jn:dU,(∀H_,(K H_)->Jn H_)->
 IF eq (
 Jn H) (
 ∃a,∃there:Bool,mL Tryz.prog (Instr.typeAssert rv 20 352 true) (lR (.agg #[(aB a)]) there)/\
 ∀Jn1:dU,(∀H_1,(Jn H_1)->Jn1 H_1)->
 IF there (
 AL H [(aB 0)] 352 λb H_2=>
 ST H_2 b 0 [(aB a)] λH_3=>
 aQ H_3 b 0 λv=>
 ST H_3 c0b c0o pS λH_4=>
 aM H_4 b 0=some (aB v)/\
 ST H_4 c1b c1o [(aB v)] λH_5=>
 Jn1 H_5) (
 ST H c0b c0o pS λH_6=>
 ST H_6 c1b c1o [(aB 10)] λH_7=>
 Jn1 H_7))
theorem rD.defq{b a c d e H K:_}{u h:FrameMode}(j:(u=.returning/\e=.nilIface/\h=.returning)\/(u=dK e false/\h=dK e true))(i:rD.code b a c d e H K):gZ Tryz.prog 183 (L_a2 b a c d) u H λf H'=>f=h/\K H':=
 N3 (X:=X) (an:=(.seq .reg (.blk (.seq .reg (.condJ [] .reg (.seq .reg (.condJ [] (.seq .reg .reg) (.seq .reg .reg)))))))) X_P vx vy Tryz.func183 j (by kernel_rfl) i
section
variable {a b c d e f g i j k a0 a1 a2 a3 a4 a5 a6 a7 a8 a9 b0 b1 b2 b3 b4 b5 b6 b7 b8 b9 c0 c1 c2 c3 c4 c5 c6 c7 c8 c9 d0 d1 d2 d3 d4 d5 d6 d7 d8 d9 e0 e1 e2 e3 e4 e5 e6 e7 e8 e9 f0 f1 f2 f3 f4 f5 f6 f7 f8 f9 g0 g1 g2 g3 g4 g5 g6 g7 g8 g9 i0 i1 i2 i3 i4 i5 i6 i7 i9 k0 k1 k2 k3 k4 k5 k6 k7 k8 k9 m0 m1 m2 m3 m4 m5 m6 m7 m8 m9 n0:Int}{l m n o p q r n1 n2 n3 n4 n5 n6 n7 n8 n9 o0 o1 o2 o3 o4 o5 o6 o7 o8 o9 p0 p1 p2 p3 p4 p5 p6 p7 p8 p9 q0 q1 q2 q3 q4 q5 q6 q7 q8 q9 s0 s1 s2 s3 s4 s5 s6 s7 s8 s9 t0 t1 t2 t3 t4 t5 t6 t7 t8 t9 u0:Nat}{s t u v u1 u2 u3 u4 u5 u6 u7 u9 v0 v1 v2 v3 v4 v5 v6 v7 v8 v9 w0 w1 w2 w3 w4 w5 w6 w7 w8 w9 x0 x1:Xa}{w x x2 x3 x4 x5 x6 x7 x8 x9 z0 z1 z2 z3 z4 z5 z6:Eq}{y z7 z8 z9 aa ab ac ad ae af ag ai aj ak al am:Bool}{z an ao ap aq ar au av aw:Nat->Int}{az ah ba bb bc bd be bf:Value}{bj bk bl bm bn bo bp bq:Xb}{bt bu bv bw bx bz:FuncId}{cb cc cd ce cf cg ci cj ck cl cm cn:Option Nat}{H:aC}{K KP:KQ}
theorem OX(h :
 AL H pS 150 λa c3=>
 AL c3 [aB 0] 41 λb c4=>
 C_p 113 [.slice s l m] c4 λc c5=>
 P_i 184 [.pointer c] c5 (λr1 c6=>
 ST c6 a 0 [aB r1] λc7=>
 C_l 185 [PA a 0] c7 λc8 w k0 c9=>
 ∃(v:eQ) (c2:jJ),v 0 c9/\
 ∀e d,v e d->
 ID (e<w) (
 IA e w c8 λd0 d1=>
 cv d d0 (d1+e.toNat) λf=>
 C_u 114 [.pointer c] d λr2 d2=>
 NN f (
 ST d2 (aW f) (aT f) [aB (i64.wrap r2)] λx=>
 Q_i 187 [.pointer c] x λr3=>
 P_T_ 186 [aB r3] x (λy=>
 v (i64.wrap (e+1)) y/\c2 (i64.wrap (e+1)) y<c2 e d) (λz d3=>
 bK 183 X.calls=true/\
 gZ Tryz.prog 183 (L_a2 a 0 b 0) (dK z false) d3 λd4 g=>d4=dK z true/\
 jj g a 0 λd5=>
 aQ g b 0 λd6=>
 K (gl (.agg ⟨d5⟩) d6) g))) (
 aQ d a 0 λa0=>
 ∀t:dU,(∀a9,(C_i 118 [.pointer c] a9 λr4 d7=>
 P_T_ 186 [aB r4] d7 (λa1=>
 jj a1 a 0 λd8=>
 C_b 190 [.agg ⟨d8⟩] a1 λr5 a2=>
 ∀c1:dU,(∀r,(jj r a 0 λd9=>
 ST r a 0 d9 λe0=>
 ST e0 b 0 [aB 0] λe1=>
 bK 183 X.calls=true/\
 gZ Tryz.prog 183 (L_a2 a 0 b 0) .returning e1 λe2 i=>e2=.returning/\
 jj i a 0 λe3=>
 aQ i b 0 λe4=>
 K (gl (.agg ⟨e3⟩) e4) i)->c1 r)->
 IF (!r5) (
 bK 183 X.calls=true/\
 gZ Tryz.prog 183 (L_a2 a 0 b 0) (dK (.iface 352 (.agg #[aB 10])) false) a2 λe5 j=>e5=dK (.iface 352 (.agg #[aB 10])) true/\
 jj j a 0 λe6=>
 aQ j b 0 λe7=>
 K (gl (.agg ⟨e6⟩) e7) j) (
 c1 a2)) (λa3 e8=>
 bK 183 X.calls=true/\
 gZ Tryz.prog 183 (L_a2 a 0 b 0) (dK a3 false) e8 λe9 k=>e9=dK a3 true/\
 jj k a 0 λf0=>
 aQ k b 0 λf1=>
 K (gl (.agg ⟨f0⟩) f1) k))->t a9)->
 ID (a0=5) (
 CP 188 ⟨[.pointer c]⟩ d (λf2 f3=>∃b0 b1 b2,f2=(.slice b0 b1 b2)/\
 ST f3 a 10 [.slice b0 b1 b2] λf4=>
 t f4) (λa4 f5=>
 bK 183 X.calls=true/\
 gZ Tryz.prog 183 (L_a2 a 0 b 0) (dK a4 false) f5 λf6 n=>f6=dK a4 true/\
 jj n a 0 λf7=>
 aQ n b 0 λf8=>
 K (gl (.agg ⟨f7⟩) f8) n)) (
 ∀u:dU,(∀b3,(t b3)->u b3)->
 ID (a0=8) (
 CP 189 ⟨[.pointer c]⟩ d (λf9 g0=>∃b4 b5 b6 b7,f9=(A_sl b4 b5 b6 b7)/\
 ST g0 a 11 (L_sl b4 b5 b6 b7) λg1=>
 CF 116 ⟨(gz c 4096)⟩ g1 λg2 g3=>∃A,g2=(.string A)/\
 bS Tryz.prog (convert 9 38 (.string A)) g3 λg4 g5=>
 ∃b8 b9 c0,g4=(.slice b8 b9 c0)/\
 ST g5 a 13 [.slice b8 b9 c0] λa5=>
 Q_i 187 [.pointer c] a5 λr7=>
 P_T_ 186 [aB r7] a5 (λg6=>
 u g6) (λa6 g7=>
 bK 183 X.calls=true/\
 gZ Tryz.prog 183 (L_a2 a 0 b 0) (dK a6 false) g7 λg8 o=>g8=dK a6 true/\
 jj o a 0 λg9=>
 aQ o b 0 λi0=>
 K (gl (.agg ⟨g9⟩) i0) o)) (λa7 i1=>
 bK 183 X.calls=true/\
 gZ Tryz.prog 183 (L_a2 a 0 b 0) (dK a7 false) i1 λi2 p=>i2=dK a7 true/\
 jj p a 0 λi3=>
 aQ p b 0 λi4=>
 K (gl (.agg ⟨i3⟩) i4) p)) (
 u d)))) (λa8 i5=>
 bK 183 X.calls=true/\
 gZ Tryz.prog 183 (L_a2 a 0 b 0) (dK a8 false) i5 λi6 q=>i6=dK a8 true/\
 jj q a 0 λi7=>
 aQ q b 0 λi9=>
 K (gl (.agg ⟨i7⟩) i9) q)):CF 112 ⟨[.slice s l m]⟩ H K:=cE 0x1111215612399251144215174171149121749c [[],[],[],[(16,sI)]] h
end
section
variable {a b c d e f g i j k a0 a1 a2 a3 a4 a5 a6 a7 a8 a9 b0 b1 b2 b3 b4 b5 b6 b7 b8 b9 c0 c1 c2 c3 c4 c5 c6 c7 c8 c9 d0 d1 d2 d3 d4 d5 d6 d7 d8 d9 e0 e1 e2 e3 e4 e5 e6 e7 e8 e9 f0 f1 f2 f3 f4 f5 f6 f7 f8 f9 g0 g1 g2 g3 g4 g5 g6 g7 g8 g9 i0 i1 i2 i3 i4 i5 i6 i7 i9 k0 k1 k2 k3 k4 k5 k6 k7 k8 k9 m0 m1 m2 m3 m4 m5 m6 m7 m8 m9 n0:Int}{l m n o p q r n1 n2 n3 n4 n5 n6 n7 n8 n9 o0 o1 o2 o3 o4 o5 o6 o7 o8 o9 p0 p1 p2 p3 p4 p5 p6 p7 p8 p9 q0 q1 q2 q3 q4 q5 q6 q7 q8 q9 s0 s1 s2 s3 s4 s5 s6 s7 s8 s9 t0 t1 t2 t3 t4 t5 t6 t7 t8 t9 u0:Nat}{s t u v u1 u2 u3 u4 u5 u6 u7 u9 v0 v1 v2 v3 v4 v5 v6 v7 v8 v9 w0 w1 w2 w3 w4 w5 w6 w7 w8 w9 x0 x1:Xa}{w x x2 x3 x4 x5 x6 x7 x8 x9 z0 z1 z2 z3 z4 z5 z6:Eq}{y z7 z8 z9 aa ab ac ad ae af ag ai aj ak al am:Bool}{z an ao ap aq ar au av aw:Nat->Int}{az ah ba bb bc bd be bf:Value}{bj bk bl bm bn bo bp bq:Xb}{bt bu bv bw bx bz:FuncId}{cb cc cd ce cf cg ci cj ck cl cm cn:Option Nat}{H:aC}{K KP:KQ}
theorem OY(h :
 C_i 272 (kV l m a) H λa1 a2=>
 IN (a1=0) (
 K (V_ni a1) a2) (
 AL a2 [.slice none 0 0] 110 λe j=>
 aQ j l (m+2+1) λc3=>
 ID (c3=0) (
 vC 276 (kV l m 1) j λc4 c5=>
 AL c5 pS 150 λs c6=>
 ST c6 s 0 c4 λa3=>
 aQ a3 l (m+2) λc7=>
 ST a3 s 3 [aB c7] λa4=>
 jj a4 s 0 λc8=>
 bK 275 X.calls=true/\
 C_i 275 (L_va (.agg ⟨c8⟩) e 0) a4 λf7 a5=>
 dt a5 e 0 λc9 d0 d1=>
 K (V_li c9 d0 d1 0) a5) (
 dt j l (m+2+6) λd2 a6 f8=>
 ∃(z:eQ) (c1:jJ),z 0 j/\
 ∀c i,z c i->
 ID (c<a6) (
 IA c a6 d2 λd3 d4=>
 Ej i d3 (d4+c.toNat*3) λd5=>
 AL i (jK 0 0 0) 449 λb d6=>
 ST d6 b 0 d5 λd7=>
 vC 276 (kV l m 4) d7 λd8 d9=>
 AL d9 pS 150 λf e0=>
 ST e0 f 0 d8 λg=>
 aQ g b 0 λv2=>
 aQ g b 1 λa7=>
 aQ g b 2 λt=>
 aQ g l (m+2+2) λk=>
 ST g f 3 [aB v2] λn=>
 aM n l (m+2+2)=some (aB k)/\
 aM n b 2=some (aB t)/\
 aM n b 1=some (aB a7)/\
 ST n f 4 [aB a7] λu=>
 aM u l (m+2+2)=some (aB k)/\
 aM u b 2=some (aB t)/\
 ST u f 5 [aB t] λa8=>
 aM a8 l (m+2+2)=some (aB k)/\
 ST a8 f 6 [aB k] λa9=>
 jj a9 f 0 λe1=>
 bK 275 X.calls=true/\
 C_i 275 (L_va (.agg ⟨e1⟩) e 0) a9 λA b0=>
 z (i64.wrap (c+1)) b0/\c1 (i64.wrap (c+1)) b0<c1 c i) (
 ST i l (m+2+6) [.slice none 0 0] λb1=>
 dt b1 l (m+2+4) λf9 b2 g0=>
 ∀y:dU,(∀c0,(vC 276 (kV l m 7) c0 λe2 e3=>
 AL e3 pS 150 λo e4=>
 ST e4 o 0 e2 λv=>
 aQ v l (m+2+3) λe5=>
 aQ v l (m+2+2) λb3=>
 ST v o 7 [aB e5] λb4=>
 aM b4 l (m+2+2)=some (aB b3)/\
 ST b4 o 8 [aB b3] λb5=>
 jj b5 o 0 λe6=>
 bK 275 X.calls=true/\
 C_i 275 (L_va (.agg ⟨e6⟩) e 0) b5 λg1 b6=>
 dt b6 e 0 λe7 e8 e9=>
 K (V_li e7 e8 e9 0) b6)->y c0)->
 ∃(a0:eQ) (c2:jJ),a0 (if 64<(b2:Int) then 64 else (b2:Int)) b1/\
 ∀d r,a0 d r->
 ID (0<d) (
 vC 276 (kV l m 5) r λf0 f1=>
 AL f1 pS 150 λp f2=>
 ST f2 p 0 f0 λw=>
 Q_i 277 [PA l m] w λf3=>
 dt w l (m+2+4) λb7 f4 q=>
 (BD 0 d q)/\
 ST w p 7 [aB f3] λb8=>
 aM b8 l (m+2+4)=some (.slice b7 f4 q)/\
 ST b8 p 10 [.slice (bM b7 0 q 4) d.toNat q] λb9=>
 jj b9 p 0 λf5=>
 bK 275 X.calls=true/\
 C_i 275 (L_va (.agg ⟨f5⟩) e 0) b9 λf6 x=>
 IN (f6=17) (
 y x) (
 a0 (i64.wrap (d-1)) x/\c2 (i64.wrap (d-1)) x<c2 d r)) (
 y r))))):CF 166 ⟨(kV l m a)⟩ H K:=cE 0x121b11213111c92156123992511144121a621399251113994111c [[(13,sI)],[],[(47,sI)]] h
theorem OZ(h :
 aQ H n (o+3) λx=>
 aQ H n (o+5) λy=>
 vB H n (o+8) λz=>
 vA 160 (L_ai2v l m x y (.agg ⟨z⟩)) H λa0 r1 a=>
 IN (r1=0) (
 K (aB r1) a) (
 cv a p q λv2=>
 cv a p q λb=>
 NN b (
 dt a (aW b) ((aT b)+3) λf g i=>
 aQ a n (o+1) λj=>
 Q_i 161 [PA l m] a λr2=>
 Q_i 162 [PA l m] a λr3=>
 cv a p q λd=>
 NN d (
 aQ a (aW d) ((aT d)+148) λk=>
 Q_i 163 [PA l m] a λr4=>
 aQ a n (o+5) λr=>
 vB a n (o+8) λa1=>
 CF 164 ⟨[.agg ⟨a1⟩]⟩ a λa2 c=>∃t u v w,a2=(A_sl t u v w)/\
 aM c n (o+5)=some (aB r)/\
 aM c (aW d) ((aT d)+148)=some (aB k)/\
 aM c p q=some (.pointer d)/\
 aM c n (o+1)=some (aB j)/\
 aM c (aW b) ((aT b)+3)=some (.slice f g i)/\
 aM c p q=some (.pointer b)/\
 aM c p q=some (.pointer v2)/\
 AL c [aB j,aB r2,aB a0,aB r3,aB k,aB r4,aB r,.string t,.slice u v w] 322 λa3 e=>
 aM e (aW b) ((aT b)+3)=some (.slice f g i)/\
 aM e p q=some (.pointer b)/\
 aM e p q=some (.pointer v2)/\
 AP #[111,111] 111 (fO f g i (some ⟨a3,0,none⟩) 1 1) e λa4 a5 a6 s=>
 aM s p q=some (.pointer v2)/\
 NN v2 (
 ST s (aW v2) ((aT v2)+3) [.slice a4 a5 a6] λa7=>
 K (aB 0) a7))))):CF 159 ⟨[PA l m,PA n o,PA p q]⟩ H K:=cE 72988 [] h
theorem Pa(h :
 AL H (yP a b c d e f g i w s n o t p q) 40 λu v=>
 ∀a1:yH,(∀k r a0 j,(IN (a0=0) (
 K (aB a0) j) (
 rd_b j k r λa4=>
 IF a4 (
 cv j l (m+215) λa5=>
 aQ j k (r+1) λv2=>
 aQ j l (m+148) λa6=>
 dt j k (r+3) λa7 a8 a9=>
 C_i 167 [.pointer a5,aB v2,aB a6,.slice a7 a8 a9] j λb0 b1=>
 K (aB b0) b1) (
 aQ j k (r+1) λb2=>
 aQ j u 3 λb3=>
 C_i 158 (L_ai2v l m b2 b3 (.func (.func 168) #[] #[PA u 0,PA k r])) j λr1 b4=>
 K (aB r1) b4)))->a1 k r a0 j)->
 cv v l (m+213) λx=>
 aQ v u 6 λy=>
 (vE 103 (gz x y) v λb5 r3 b6=>
 AL b6 vD 230 λa2 b7=>
 ST b7 a2 0 b5 λb8=>
 a1 a2 0 r3 b8)/\
 (AL v vD 230 λa3 z=>
 aM z u 6=some (aB y)/\
 aM z l (m+213)=some (.pointer x)/\
 vE 103 (gz x y) z λb9 r4 c0=>
 ST c0 a3 0 b9 λc1=>
 a1 a3 0 r4 c1)):CF 102 ⟨(L_av l m (yQ a b c d e f g i w s n o t p q))⟩ H K:=cE 1215964 [[(5,sA),(6,sI)]] h
theorem Pd(h :
 AL H (yP a b c d e f g i w s l m t n o) 40 λa0 b2=>
 tD b2 a0 0 λc6=>
 AL b2 [aB 0,aB 0,aB 0,aB 0,aB 0,aB 0,aB 0,aB 0,.string (⟨#[]⟩:Eq),.slice none 0 0,.slice none 0 0] 40 λj c7=>
 ST c7 j 0 c6 λq=>
 aQ q a0 0 λk=>
 ∀a1:dU,(∀p,(aQ p j 1 λc8=>
 aQ p j 2 λv2=>
 aQ p j 3 λc9=>
 aQ p j 4 λd0=>
 aQ p j 5 λd1=>
 aQ p j 6 λd2=>
 aQ p j 7 λd3=>
 AL p [aB 0,aB 0,aB 0,aB 0,aB 0,aB 0,aB 0] 316 λb3 d4=>
 ST d4 b3 0 [aB c8,aB v2,aB c9,aB d0,aB d1,aB d2,aB d3] λr=>
 aQ r a0 1 λd5=>
 Q_b 157 [aB d5] r λu=>
 gd_Ai7_ (u=true) r b3 0 λd6 d7 d8 d9 e0 e1 e2=>
 ∃x:Bool,((u=true)->fH Tryz.prog .eql 316 (.agg ⟨[aB d6,aB d7,aB d8,aB d9,aB e0,aB e1,aB e2]⟩) (.agg ⟨[aB 0,aB 0,aB 0,aB 0,aB 0,aB 0,aB 0]⟩) x)/\
 ∃y,(((u&&x)=true)->aM r j 8=some (.string y))/\
 gd_l (((u&&x)&&(y.toList == (⟨#[]⟩:Eq).toList))=true) r j 9 λg0 b4 g1=>
 gd_l ((((u&&x)&&(y.toList == (⟨#[]⟩:Eq).toList))&&(decide ((b4:Int)=0)))=true) r j 10 λg2 e3 g3=>
 K (.bool ((((u&&x)&&(y.toList == (⟨#[]⟩:Eq).toList))&&(decide ((b4:Int)=0)))&&(decide ((e3:Int)=0)))) r)->a1 p)->
 ID (k=0) (
 ST q j 2 [aB 0] λe4=>
 a1 e4) (
 ∀a2:dU,(∀b5,(a1 b5)->a2 b5)->
 ID (k=1) (
 ST q j 1 [aB 0] λe5=>
 ST e5 j 4 [aB 0] λe6=>
 a2 e6) (
 ∀a3:dU,(∀b6,(a2 b6)->a3 b6)->
 ID (k=2) (
 ST q j 1 [aB 0] λe7=>
 ST e7 j 3 [aB 0] λe8=>
 ST e8 j 5 [aB 0] λe9=>
 ST e9 j 8 [(.string (⟨#[]⟩:Eq))] λf0=>
 ST f0 j 9 [.slice none 0 0] λf1=>
 a3 f1) (
 ∀a4:dU,(∀b7,(a3 b7)->a4 b7)->
 ID (k=3) (
 ST q j 1 [aB 0] λf2=>
 ST f2 j 3 [aB 0] λf3=>
 a4 f3) (
 ∀a5:dU,(∀b8,(a4 b8)->a5 b8)->
 ID (k=4) (
 ST q j 6 [aB 0] λf4=>
 ST f4 j 3 [aB 0] λf5=>
 a5 f5) (
 ∀a6:J_bHP,(∀b9 v,(∀a7:dU,(∀c0,(a5 c0)->a7 c0)->
 IF b9 (
 ST v j 6 [aB 0] λf6=>
 a7 f6) (
 ∀a8:dU,(∀c1,(a7 c1)->a8 c1)->
 ID (k=7) (
 ST v j 1 [aB 0] λf7=>
 ST f7 j 10 [.slice none 0 0] λf8=>
 a8 f8) (
 ∀a9:J_bHP,(∀c2 z,(∀b0:dU,(∀c3,(a8 c3)->b0 c3)->
 IF c2 (
 b0 z) (
 ID (k=11) (
 ST z j 7 [aB 0] λf9=>
 b0 f9) (
 K (.bool false) z)))->a9 c2 z)->
 ID (k=8) (
 a9 (decide (k=8)) v) (
 ∀b1:J_bHP,(∀c4 c5,(a9 c4 c5)->b1 c4 c5)->
 ID (k=9) (
 b1 (decide (k=9)) v) (
 b1 (decide (k=10)) v)))))->a6 b9 v)->
 ID (k=5) (
 a6 (decide (k=5)) q) (
 a6 (decide (k=6)) q))))))):CF 98 ⟨[(yQ a b c d e f g i w s l m t n o)]⟩ H K:=cE 0x11215174174171417417421794741742179179479134c1c [[],[(40,sB)],[(40,sB)],[],[],[(32,sB)],[],[],[],[],[]] h
theorem Pf(h :
 AL H (yP a b c d e f g i w s n o t p q) 40 λk a3=>
 tD a3 k 0 λb2=>
 C_b 98 [.agg ⟨b2⟩] a3 λb3 j=>
 IF (!b3) (
 K (aB 10) j) (
 aQ j k 0 λr=>
 ∀z:dU,(∀a7,(K (aB 0) a7)->z a7)->
 ID (r=0) (
 aQ j k 2 λa4=>
 aQ j l (m+148) λv2=>
 gd_i ((decide (a4<v2))=false) j k 2 λb4=>
 IF ((decide (a4<v2))||(decide (4611686018427387903<b4))) (
 K (aB 11) j) (
 aQ j k 2 λb5=>
 ST j l (m+148) [aB b5] λb6=>
 z b6)) (
 ID (r=1) (
 aQ j k 1 λa5=>
 (IX a5 64)/\
 cv j l (m+149+a5.toNat) λb7=>
 aQ j k 4 λb8=>
 C_i 99 (gz b7 b8) j λr1 b9=>
 K (aB r1) b9) (
 ID (r=2) (
 tD j k 0 λc0=>
 C_i 100 (L_av l m (.agg ⟨c0⟩)) j λr2 c1=>
 K (aB r2) c1) (
 ID (r=3) (
 tD j k 0 λc2=>
 C_i 101 (L_av l m (.agg ⟨c2⟩)) j λr3 c3=>
 K (aB r3) c3) (
 ID (r=4) (
 tD j k 0 λc4=>
 C_i 102 (L_av l m (.agg ⟨c4⟩)) j λr4 c5=>
 K (aB r4) c5) (
 ID (r=5) (
 ∀a0:eQ,(∀a8 a9,(K (aB a8) a9)->a0 a8 a9)->
 cv j l (m+213) λu=>
 aQ j k 6 λv=>
 (vE 103 (gz u v) j λc6 r5 c7=>
 AL c7 vD 230 λc8 c9=>
 ST c9 c8 0 c6 λd0=>
 a0 r5 d0)/\
 (AL j vD 230 λd1 x=>
 aM x k 6=some (aB v)/\
 aM x l (m+213)=some (.pointer u)/\
 vE 103 (gz u v) x λd2 B d3=>
 ST d3 d1 0 d2 λd4=>
 a0 B d4)) (
 ID (r=6) (
 cv j l (m+213) λd5=>
 aQ j k 6 λd6=>
 vA 104 (gz d5 d6) j λr7 d7 d8=>
 K (aB d7) d8) (
 ∀a1:dU,(∀b0,(z b0)->a1 b0)->
 ID (r=7) (
 aQ j k 1 λa6=>
 (IX a6 64)/\
 ST j l (m+5+a6.toNat) [.bool true] λy=>
 aQ y k 1 λd9=>
 dt y k 10 λe0 e1 e2=>
 C_T_ 94 [PA l m,.bool true,aB d9,.slice e0 e1 e2] y λe3=>
 a1 e3) (
 ID (r=8) (
 C_i 105 [PA l m] j λe4 e5=>
 K (aB e4) e5) (
 ∀a2:dU,(∀b1,(a1 b1)->a2 b1)->
 ID (r=9) (
 cv j l (m+215) λe6=>
 C_l 106 [.pointer e6] j λe7 e8 e9 f0=>
 C_T_ 54 (L_al l m e7 e8 e9) f0 λf1=>
 a2 f1) (
 ID (r=10) (
 cv j l (m+215) λf2=>
 dt j l (m+2) λf8 f3 f9=>
 C_i 107 (gz f2 f3) j λf4 f5=>
 K (aB f4) f5) (
 ID (r=11) (
 aQ j k 7 λf6=>
 C_i 108 (kV l m f6) j λA f7=>
 K (aB A) f7) (
 a2 j)))))))))))))):CF 55 ⟨(L_av l m (yQ a b c d e f g i w s n o t p q))⟩ H K:=cE 0x1d21517d413c13c13c13c1328c131c171413c17413cbc [[],[],[(6,sI)],[]] h
theorem Ew(h :
 AL H (L_i15 a b c d e f g i j k a0 a1 a2 a3 a4) 30 λn b3=>
 ∃b7 b8 b9 c0 c1 c2 c3 c4 c5 c6 c7 c8 c9 d0 d1,bV b3 n 0 (L_i15 b7 b8 b9 c0 c1 c2 c3 c4 c5 c6 c7 c8 c9 d0 d1)/\
 C_b 48 [(A_i15 b7 b8 b9 c0 c1 c2 c3 c4 c5 c6 c7 c8 c9 d0 d1)] b3 λe9 p=>
 IF (!e9) (
 K (V_pi none 11) p) (
 ∃r s t u v w x y z a5 a6 a7 a8 a9 b0,bV p n 0 (L_i15 r s t u v w x y z a5 a6 a7 a8 a9 b0)/\
 C_p 49 [] p λr1 b4=>
 bV b4 n 0 (L_i15 r s t u v w x y z a5 a6 a7 a8 a9 b0)/\
 AL b4 [.pointer none,.map none,.slice none 0 0,.slice none 0 0,.map none,.bool false,.bool false,.bool false,.bool false,.bool false,.bool false,.bool false,.bool false,.bool false,.bool false,.bool false,.bool false,.bool false,.bool false,.bool false,.bool false,.bool false,.bool false,.bool false,.bool false,.bool false,.bool false,.bool false,.bool false,.bool false,.bool false,.bool false,.bool false,.bool false,.bool false,.bool false,.bool false,.bool false,.bool false,.bool false,.bool false,.bool false,.bool false,.bool false,.bool false,.bool false,.bool false,.bool false,.bool false,.bool false,.bool false,.bool false,.bool false,.bool false,.bool false,.bool false,.bool false,.bool false,.bool false,.bool false,.bool false,.bool false,.bool false,.bool false,.bool false,.bool false,.bool false,.bool false,.bool false,.bool false,.bool false,.bool false,.bool false,.bool false,.bool false,.bool false,.bool false,.bool false,.bool false,.bool false,.bool false,.bool false,.bool false,.bool false,.bool false,.bool false,.bool false,.bool false,.bool false,.bool false,.bool false,.bool false,.bool false,.bool false,.bool false,.bool false,.bool false,.bool false,.bool false,.bool false,.bool false,.bool false,.bool false,.bool false,.bool false,.bool false,.bool false,.bool false,.bool false,.bool false,.bool false,.bool false,.bool false,.bool false,.bool false,.bool false,.bool false,.bool false,.bool false,.bool false,.bool false,.bool false,.bool false,.bool false,.bool false,.bool false,.bool false,.bool false,.bool false,.bool false,.bool false,.bool false,.bool false,aB r,aB s,aB t,aB u,aB v,aB w,aB x,aB y,aB z,aB a5,aB a6,aB a7,aB a8,aB a9,aB b0,aB 0,.pointer none,.pointer none,.pointer none,.pointer none,.pointer none,.pointer none,.pointer none,.pointer none,.pointer none,.pointer none,.pointer none,.pointer none,.pointer none,.pointer none,.pointer none,.pointer none,.pointer none,.pointer none,.pointer none,.pointer none,.pointer none,.pointer none,.pointer none,.pointer none,.pointer none,.pointer none,.pointer none,.pointer none,.pointer none,.pointer none,.pointer none,.pointer none,.pointer none,.pointer none,.pointer none,.pointer none,.pointer none,.pointer none,.pointer none,.pointer none,.pointer none,.pointer none,.pointer none,.pointer none,.pointer none,.pointer none,.pointer none,.pointer none,.pointer none,.pointer none,.pointer none,.pointer none,.pointer none,.pointer none,.pointer none,.pointer none,.pointer none,.pointer none,.pointer none,.pointer none,.pointer none,.pointer none,.pointer none,.pointer none,.pointer none,.pointer r1,.pointer none] 121 λl f0=>
 C_p 50 [] f0 λr2 f1=>
 ST f1 l 0 [.pointer r2] λf2=>
 NM f2 λf3 f4=>
 ST f4 l 1 [.map (some f3)] λf5=>
 NM f5 λf6 f7=>
 ST f7 l 4 [.map (some f6)] λf8=>
 ∃(b2:eQ) (e8:jJ),b2 0 f8/\
 ∀m o,b2 m o->
 ID (m<64) (
 aQ o n 13 λf9=>
 C_Tpi_ 51 (fM m f9) o λr3 r4 g0=>
 (IX m 64)/\
 ST g0 l (149+m.toNat) [.pointer r3] λb5=>
 b2 (i64.wrap (m+1)) b5/\e8 (i64.wrap (m+1)) b5<e8 m o) (
 aQ o n 14 λg1=>
 C_Tpi_ 52 [aB g1] o λr5 A g2=>
 ST g2 l 213 [.pointer r5] λq=>
 cv q l 214 λv2=>
 ∃d2 d3 d4 d5 d6 d7 d8 d9 e0 e1 e2 e3 e4,bV q n 0 (L_i13 d2 d3 d4 d5 d6 d7 d8 d9 e0 e1 e2 e3 e4)/\
 CF 53 ⟨[.pointer v2,(A_i13 d2 d3 d4 d5 d6 d7 d8 d9 e0 e1 e2 e3 e4)]⟩ q λg3 b6=>∃r7 e5 e6 e7 b1,g3=(V_pli r7 e5 e6 e7 b1)/\
 IN (b1=0) (
 K (V_pi none b1) b6) (
 ST b6 l 215 [.pointer r7] λg4=>
 C_T_ 54 (L_al l 0 e5 e6 e7) g4 λg5=>
 K (.tuple #[PA l 0,aB 0]) g5)))):CF 26 ⟨[(A_i15 a b c d e f g i j k a0 a1 a2 a3 a4)]⟩ H K:=cE 0x1d11112156123992514411d11c [[(31,sI)]] h
end
section
variable {a b c d e f g i j k a0 a1 a2 a3 a4 a5 a6 a7 a8 a9 b0 b1 b2 b3 b4 b5 b6 b7 b8 b9 c0 c1 c2 c3 c4 c5 c6 c7 c8 c9 d0 d1 d2 d3 d4 d5 d6 d7 d8 d9 e0 e1 e2 e3 e4 e5 e6 e7 e8 e9 f0 f1 f2 f3 f4 f5 f6 f7 f8 f9 g0 g1 g2 g3 g4 g5 g6 g7 g8 g9 i0 i1 i2 i3 i4 i5 i6 i7 i9 k0 k1 k2 k3 k4 k5 k6 k7 k8 k9 m0 m1 m2 m3 m4 m5 m6 m7 m8 m9 n0:Int}{l m n o p q r n1 n2 n3 n4 n5 n6 n7 n8 n9 o0 o1 o2 o3 o4 o5 o6 o7 o8 o9 p0 p1 p2 p3 p4 p5 p6 p7 p8 p9 q0 q1 q2 q3 q4 q5 q6 q7 q8 q9 s0 s1 s2 s3 s4 s5 s6 s7 s8 s9 t0 t1 t2 t3 t4 t5 t6 t7 t8 t9 u0:Nat}{s t u v u1 u2 u3 u4 u5 u6 u7 u9 v0 v1 v2 v3 v4 v5 v6 v7 v8 v9 w0 w1 w2 w3 w4 w5 w6 w7 w8 w9 x0 x1:Xa}{w x x2 x3 x4 x5 x6 x7 x8 x9 z0 z1 z2 z3 z4 z5 z6:Eq}{y z7 z8 z9 aa ab ac ad ae af ag ai aj ak al am:Bool}{z an ao ap aq ar au av aw:Nat->Int}{az ah ba bb bc bd be bf:Value}{bj bk bl bm bn bo bp bq:Xb}{bt bu bv bw bx bz:FuncId}{cb cc cd ce cf cg ci cj ck cl cm cn:Option Nat}{H:aC}{K KP:KQ}
theorem Of_70_c(h :
 AL H (L_sl w s l m) 37 λd r=>
 AL r (L_sn (⟨#[]⟩:Eq)) 104 λf g=>
 gA g d 0 λt=>
 AL g (L_sn (⟨#[]⟩:Eq)) 104 λc u=>
 ST u c 0 (L_sn t) λv=>
 ∃(e:eQ) (q:jJ),e 0 v/\
 ∀b a,e b a->
 dt a d 1 λb4 x b5=>
 ID (b<x) (
 dt a c 1 λi j k=>
 dt a d 1 λy z b6=>
 IA b z y λa0 a1=>
 gA a a0 (a1+b.toNat*2) λa2=>
 dt a d 1 λa3 a4 b7=>
 IA b a4 a3 λa5 a6=>
 gA a a5 (a6+b.toNat*2+1) λv2=>
 AL a (lS a2 v2) 186 λa7 n=>
 aM n c 1=some (.slice i j k)/\
 AP #[102,102] 102 (fO i j k (some ⟨a7,0,none⟩) 1 1) n λa8 a9 b0 b1=>
 ST b1 c 1 [.slice a8 a9 b0] λo=>
 e (i64.wrap (b+1)) o/\q (i64.wrap (b+1)) o<q b a) (
 vB a c 0 λb2=>
 ST a f 0 b2 λp=>
 vB p f 0 λb3=>
 K (.agg ⟨b3⟩) p)):CF 47 ⟨[(A_sl w s l m)]⟩ H K:=cE 0x112156213992544c [[(4,sI)]] h
end
open Go.Shelf
def Tryz.keysA_ren:Go.Shelf.Ren:=⟨fun|7=>387|10=>433|n=>n,fun|23=>514|26=>2|3=>332|28=>574|0=>0|27=>573|33=>317|4=>4|n=>n,fun|n=>n⟩
theorem Tryz.keysA:Go.Proofs.SlLaysZI.n7 Tryz.prog Tryz.keysA_ren:={
 mixed:=by kernel_rfl
 f7:=⟨Tryz.f387.name,by decide,zt Tryz.func387⟩
 f10:=⟨Tryz.f433.name,by decide,zt Tryz.func433⟩
 t0:=Tryz.underlying0
 a0:=Tryz.isAgg0
 z0:=Tryz.sizeOf0
 v0:=Tryz.zeroValue0
 t4:=Tryz.underlying4
 a4:=Tryz.isAgg4
 z4:=Tryz.sizeOf4
 v4:=Tryz.zeroValue4
 t23:=Tryz.underlying514
 a23:=Tryz.isAgg514
 z23:=Tryz.sizeOf514
 v23:=Tryz.zeroValue514
 t26:=Tryz.underlying2
 a26:=Tryz.isAgg2
 z26:=Tryz.sizeOf2
 v26:=Tryz.zeroValue2
 t27:=Tryz.underlying573
 a27:=Tryz.isAgg573
 z27:=Tryz.sizeOf573
 v27:=Tryz.zeroValue573
 t28:=Tryz.underlying574
 a28:=Tryz.isAgg574
 z28:=Tryz.sizeOf574
 v28:=Tryz.zeroValue574
 t33:=Tryz.underlying317
 a33:=Tryz.isAgg317
 z33:=Tryz.sizeOf317
 v33:=Tryz.zeroValue317 }
def Tryz.keysA2_ren:Go.Shelf.Ren:=⟨fun|7=>382|10=>432|n=>n,fun|23=>520|26=>2|3=>258|28=>574|0=>0|27=>573|33=>317|4=>4|n=>n,fun|n=>n⟩
theorem Tryz.keysA2:Go.Proofs.SlLaysZI.n7 Tryz.prog Tryz.keysA2_ren:={
 mixed:=by kernel_rfl
 f7:=⟨Tryz.f382.name,by decide,zt Tryz.func382⟩
 f10:=⟨Tryz.f432.name,by decide,zt Tryz.func432⟩
 t0:=Tryz.underlying0
 a0:=Tryz.isAgg0
 z0:=Tryz.sizeOf0
 v0:=Tryz.zeroValue0
 t4:=Tryz.underlying4
 a4:=Tryz.isAgg4
 z4:=Tryz.sizeOf4
 v4:=Tryz.zeroValue4
 t23:=Tryz.underlying520
 a23:=Tryz.isAgg520
 z23:=Tryz.sizeOf520
 v23:=Tryz.zeroValue520
 t26:=Tryz.underlying2
 a26:=Tryz.isAgg2
 z26:=Tryz.sizeOf2
 v26:=Tryz.zeroValue2
 t27:=Tryz.underlying573
 a27:=Tryz.isAgg573
 z27:=Tryz.sizeOf573
 v27:=Tryz.zeroValue573
 t28:=Tryz.underlying574
 a28:=Tryz.isAgg574
 z28:=Tryz.sizeOf574
 v28:=Tryz.zeroValue574
 t33:=Tryz.underlying317
 a33:=Tryz.isAgg317
 z33:=Tryz.sizeOf317
 v33:=Tryz.zeroValue317 }
def Tryz.keysA3_ren:Go.Shelf.Ren:=⟨fun|7=>468|10=>488|n=>n,fun|23=>409|26=>2|3=>334|28=>574|0=>0|27=>573|33=>317|4=>4|n=>n,fun|n=>n⟩
theorem Tryz.keysA3:Go.Proofs.SlLaysZI.n7 Tryz.prog Tryz.keysA3_ren:={
 mixed:=by kernel_rfl
 f7:=⟨Tryz.f468.name,by decide,zt Tryz.func468⟩
 f10:=⟨Tryz.f488.name,by decide,zt Tryz.func488⟩
 t0:=Tryz.underlying0
 a0:=Tryz.isAgg0
 z0:=Tryz.sizeOf0
 v0:=Tryz.zeroValue0
 t4:=Tryz.underlying4
 a4:=Tryz.isAgg4
 z4:=Tryz.sizeOf4
 v4:=Tryz.zeroValue4
 t23:=Tryz.underlying409
 a23:=Tryz.isAgg409
 z23:=Tryz.sizeOf409
 v23:=Tryz.zeroValue409
 t26:=Tryz.underlying2
 a26:=Tryz.isAgg2
 z26:=Tryz.sizeOf2
 v26:=Tryz.zeroValue2
 t27:=Tryz.underlying573
 a27:=Tryz.isAgg573
 z27:=Tryz.sizeOf573
 v27:=Tryz.zeroValue573
 t28:=Tryz.underlying574
 a28:=Tryz.isAgg574
 z28:=Tryz.sizeOf574
 v28:=Tryz.zeroValue574
 t33:=Tryz.underlying317
 a33:=Tryz.isAgg317
 z33:=Tryz.sizeOf317
 v33:=Tryz.zeroValue317 }
def Tryz.sortedA_ren:Go.Shelf.Ren:=⟨fun|6=>381|8=>430|9=>431|11=>469|13=>398|12=>470|23=>446|24=>313|14=>489|15=>490|16=>491|17=>492|18=>493|19=>494|20=>495|21=>496|22=>497|25=>509|26=>475|27=>476|28=>510|29=>511|30=>399|31=>515|n=>n,fun|26=>2|28=>574|24=>460|0=>0|3=>3|37=>267|48=>349|50=>153|4=>4|40=>624|39=>623|45=>628|5=>5|9=>9|51=>656|55=>659|57=>678|58=>679|33=>317|n=>n,fun|n=>n⟩
theorem Tryz.sortedA:Go.Proofs.SlLaysZI.n6 Tryz.prog Tryz.sortedA_ren:={
 mixed:=by kernel_rfl
 f6:=⟨Tryz.f381.name,by decide,zt Tryz.func381⟩
 f8:=⟨Tryz.f430.name,by decide,zt Tryz.func430⟩
 f11:=⟨Tryz.f469.name,by decide,zt Tryz.func469⟩
 t0:=Tryz.underlying0
 a0:=Tryz.isAgg0
 z0:=Tryz.sizeOf0
 v0:=Tryz.zeroValue0
 t24:=Tryz.underlying460
 a24:=Tryz.isAgg460
 z24:=Tryz.sizeOf460
 v24:=Tryz.zeroValue460
 t26:=Tryz.underlying2
 a26:=Tryz.isAgg2
 z26:=Tryz.sizeOf2
 v26:=Tryz.zeroValue2
 t28:=Tryz.underlying574
 a28:=Tryz.isAgg574
 z28:=Tryz.sizeOf574
 v28:=Tryz.zeroValue574
 i26:=by kernel_rfl }
def Tryz.sortA_ren:Go.Shelf.Ren:=⟨fun|5=>431|8=>398|7=>470|19=>446|20=>313|10=>489|11=>490|12=>491|13=>492|14=>493|15=>494|16=>495|17=>496|18=>497|30=>509|31=>475|32=>476|33=>510|34=>511|35=>399|40=>515|n=>n,fun|23=>460|25=>2|3=>3|32=>267|22=>460|0=>0|44=>349|46=>153|4=>4|36=>624|35=>623|41=>628|5=>5|9=>9|53=>656|57=>659|63=>678|64=>679|n=>n,fun|n=>n⟩
theorem Tryz.sortA:Go.Proofs.SlLaysM.n5 Tryz.prog Tryz.sortA_ren:={
 mixed:=by kernel_rfl
 f5:=⟨Tryz.f431.name,by decide,zt Tryz.func431⟩
 f7:=⟨Tryz.f470.name,by decide,zt Tryz.func470⟩
 f8:=zt Tryz.func398
 f10:=⟨Tryz.f489.name,by decide,zt Tryz.func489⟩
 f11:=⟨Tryz.f490.name,by decide,zt Tryz.func490⟩
 f12:=⟨Tryz.f491.name,by decide,zt Tryz.func491⟩
 f13:=⟨Tryz.f492.name,by decide,zt Tryz.func492⟩
 f14:=⟨Tryz.f493.name,by decide,zt Tryz.func493⟩
 f15:=⟨Tryz.f494.name,by decide,zt Tryz.func494⟩
 f16:=⟨Tryz.f495.name,by decide,zt Tryz.func495⟩
 f17:=⟨Tryz.f496.name,by decide,zt Tryz.func496⟩
 f18:=⟨Tryz.f497.name,by decide,zt Tryz.func497⟩
 f19:=zt Tryz.func446
 f20:=zt Tryz.func313
 f30:=⟨Tryz.f509.name,by decide,zt Tryz.func509⟩
 f31:=zt Tryz.func475
 f32:=zt Tryz.func476
 f33:=⟨Tryz.f510.name,by decide,zt Tryz.func510⟩
 f34:=⟨Tryz.f511.name,by decide,zt Tryz.func511⟩
 f35:=⟨Tryz.f399.name,by decide,zt Tryz.func399⟩
 f40:=⟨Tryz.f515.name,by decide,zt Tryz.func515⟩
 t0:=Tryz.underlying0
 a0:=Tryz.isAgg0
 z0:=Tryz.sizeOf0
 v0:=Tryz.zeroValue0
 t3:=Tryz.underlying3
 a3:=Tryz.isAgg3
 z3:=Tryz.sizeOf3
 v3:=Tryz.zeroValue3
 t4:=Tryz.underlying4
 a4:=Tryz.isAgg4
 z4:=Tryz.sizeOf4
 v4:=Tryz.zeroValue4
 t5:=Tryz.underlying5
 a5:=Tryz.isAgg5
 z5:=Tryz.sizeOf5
 v5:=Tryz.zeroValue5
 t9:=Tryz.underlying9
 a9:=Tryz.isAgg9
 z9:=Tryz.sizeOf9
 v9:=Tryz.zeroValue9
 t22:=Tryz.underlying460
 a22:=Tryz.isAgg460
 z22:=Tryz.sizeOf460
 v22:=Tryz.zeroValue460
 t23:=Tryz.underlying460
 a23:=Tryz.isAgg460
 z23:=Tryz.sizeOf460
 v23:=Tryz.zeroValue460
 t25:=Tryz.underlying2
 a25:=Tryz.isAgg2
 z25:=Tryz.sizeOf2
 v25:=Tryz.zeroValue2
 t32:=Tryz.underlying267
 a32:=Tryz.isAgg267
 z32:=Tryz.sizeOf267
 v32:=Tryz.zeroValue267
 t35:=Tryz.underlying623
 a35:=Tryz.isAgg623
 z35:=Tryz.sizeOf623
 v35:=Tryz.zeroValue623
 t36:=Tryz.underlying624
 a36:=Tryz.isAgg624
 z36:=Tryz.sizeOf624
 v36:=Tryz.zeroValue624
 t41:=Tryz.underlying628
 a41:=Tryz.isAgg628
 z41:=Tryz.sizeOf628
 v41:=Tryz.zeroValue628
 t44:=Tryz.underlying349
 a44:=Tryz.isAgg349
 z44:=Tryz.sizeOf349
 v44:=Tryz.zeroValue349
 t46:=Tryz.underlying153
 a46:=Tryz.isAgg153
 z46:=Tryz.sizeOf153
 v46:=Tryz.zeroValue153
 t53:=Tryz.underlying656
 a53:=Tryz.isAgg656
 z53:=Tryz.sizeOf656
 v53:=Tryz.zeroValue656
 t57:=Tryz.underlying659
 a57:=Tryz.isAgg659
 z57:=Tryz.sizeOf659
 v57:=Tryz.zeroValue659
 t63:=Tryz.underlying678
 a63:=Tryz.isAgg678
 z63:=Tryz.sizeOf678
 v63:=Tryz.zeroValue678
 t64:=Tryz.underlying679
 a64:=Tryz.isAgg679
 z64:=Tryz.sizeOf679
 v64:=Tryz.zeroValue679 }
def Tryz.cloneA_ren:Go.Shelf.Ren:=⟨fun|5=>368|7=>303|n=>n,fun|23=>514|25=>2|3=>332|4=>4|20=>20|n=>n,fun|n=>n⟩
theorem Tryz.cloneA:Go.Proofs.SlLaysW.n5 Tryz.prog Tryz.cloneA_ren:={
 mixed:=by kernel_rfl
 f5:=⟨Tryz.f368.name,by decide,zt Tryz.func368⟩
 f7:=zt Tryz.func303
 t4:=Tryz.underlying4
 a4:=Tryz.isAgg4
 z4:=Tryz.sizeOf4
 v4:=Tryz.zeroValue4
 t20:=Tryz.underlying20
 a20:=Tryz.isAgg20
 z20:=Tryz.sizeOf20
 v20:=Tryz.zeroValue20
 t23:=Tryz.underlying514
 a23:=Tryz.isAgg514
 z23:=Tryz.sizeOf514
 v23:=Tryz.zeroValue514 }
def Tryz.cloneA2_ren:Go.Shelf.Ren:=⟨fun|5=>369|7=>303|n=>n,fun|23=>409|25=>2|3=>334|4=>4|20=>20|n=>n,fun|n=>n⟩
theorem Tryz.cloneA2:Go.Proofs.SlLaysW.n5 Tryz.prog Tryz.cloneA2_ren:={
 mixed:=by kernel_rfl
 f5:=⟨Tryz.f369.name,by decide,zt Tryz.func369⟩
 f7:=zt Tryz.func303
 t4:=Tryz.underlying4
 a4:=Tryz.isAgg4
 z4:=Tryz.sizeOf4
 v4:=Tryz.zeroValue4
 t20:=Tryz.underlying20
 a20:=Tryz.isAgg20
 z20:=Tryz.sizeOf20
 v20:=Tryz.zeroValue20
 t23:=Tryz.underlying409
 a23:=Tryz.isAgg409
 z23:=Tryz.sizeOf409
 v23:=Tryz.zeroValue409 }
def Tryz.cloneA3_ren:Go.Shelf.Ren:=⟨fun|5=>372|7=>303|n=>n,fun|23=>520|25=>2|3=>258|4=>4|20=>20|n=>n,fun|n=>n⟩
theorem Tryz.cloneA3:Go.Proofs.SlLaysW.n5 Tryz.prog Tryz.cloneA3_ren:={
 mixed:=by kernel_rfl
 f5:=⟨Tryz.f372.name,by decide,zt Tryz.func372⟩
 f7:=zt Tryz.func303
 t4:=Tryz.underlying4
 a4:=Tryz.isAgg4
 z4:=Tryz.sizeOf4
 v4:=Tryz.zeroValue4
 t20:=Tryz.underlying20
 a20:=Tryz.isAgg20
 z20:=Tryz.sizeOf20
 v20:=Tryz.zeroValue20
 t23:=Tryz.underlying520
 a23:=Tryz.isAgg520
 z23:=Tryz.sizeOf520
 v23:=Tryz.zeroValue520 }
def Tryz.joinB_ren:Go.Shelf.Ren:=⟨fun|14=>414|15=>217|n=>n,fun|26=>110|22=>38|3=>3|4=>4|0=>0|9=>9|20=>20|5=>5|n=>n,fun|n=>n⟩
theorem Tryz.joinB:Go.Proofs.SlLaysJ.n14 Tryz.prog Tryz.joinB_ren:={
 mixed:=by kernel_rfl
 f14:=zt Tryz.func414
 f15:=zt Tryz.func217
 t0:=Tryz.underlying0
 a0:=Tryz.isAgg0
 z0:=Tryz.sizeOf0
 v0:=Tryz.zeroValue0
 t3:=Tryz.underlying3
 a3:=Tryz.isAgg3
 z3:=Tryz.sizeOf3
 v3:=Tryz.zeroValue3
 t4:=Tryz.underlying4
 a4:=Tryz.isAgg4
 z4:=Tryz.sizeOf4
 v4:=Tryz.zeroValue4
 t9:=Tryz.underlying9
 a9:=Tryz.isAgg9
 z9:=Tryz.sizeOf9
 v9:=Tryz.zeroValue9
 t20:=Tryz.underlying20
 a20:=Tryz.isAgg20
 z20:=Tryz.sizeOf20
 v20:=Tryz.zeroValue20
 t22:=Tryz.underlying38
 a22:=Tryz.isAgg38
 z22:=Tryz.sizeOf38
 v22:=Tryz.zeroValue38
 t26:=Tryz.underlying110
 a26:=Tryz.isAgg110
 z26:=Tryz.sizeOf110
 v26:=Tryz.zeroValue110
 t5:=Tryz.underlying5
 z5:=Tryz.sizeOf5
 i5:=by kernel_rfl }
open Go.Shelf
def Tryz.sortKA_ren:Go.Shelf.Ren:=⟨fun|6=>435|15=>398|14=>472|28=>446|29=>313|20=>498|21=>499|22=>500|23=>501|24=>502|25=>503|26=>504|27=>505|46=>512|47=>475|48=>476|49=>513|50=>514|57=>516|n=>n,fun|22=>583|24=>286|25=>588|3=>3|39=>267|0=>0|53=>349|55=>153|4=>4|46=>624|45=>623|50=>628|5=>5|9=>9|66=>656|70=>659|76=>678|77=>679|n=>n,fun|n=>n⟩
theorem Tryz.sortKA:Go.Proofs.SlLaysF0.n6 Tryz.prog Tryz.sortKA_ren:={
 mixed:=by kernel_rfl
 f6:=⟨Tryz.f435.name,by decide,zt Tryz.func435⟩
 f14:=⟨Tryz.f472.name,by decide,zt Tryz.func472⟩
 f15:=zt Tryz.func398
 f20:=⟨Tryz.f498.name,by decide,zt Tryz.func498⟩
 f21:=⟨Tryz.f499.name,by decide,zt Tryz.func499⟩
 f22:=⟨Tryz.f500.name,by decide,zt Tryz.func500⟩
 f23:=⟨Tryz.f501.name,by decide,zt Tryz.func501⟩
 f24:=⟨Tryz.f502.name,by decide,zt Tryz.func502⟩
 f25:=⟨Tryz.f503.name,by decide,zt Tryz.func503⟩
 f26:=⟨Tryz.f504.name,by decide,zt Tryz.func504⟩
 f27:=⟨Tryz.f505.name,by decide,zt Tryz.func505⟩
 f28:=zt Tryz.func446
 f29:=zt Tryz.func313
 f46:=⟨Tryz.f512.name,by decide,zt Tryz.func512⟩
 f47:=zt Tryz.func475
 f48:=zt Tryz.func476
 f49:=⟨Tryz.f513.name,by decide,zt Tryz.func513⟩
 f50:=⟨Tryz.f514.name,by decide,zt Tryz.func514⟩
 f57:=⟨Tryz.f516.name,by decide,zt Tryz.func516⟩
 t0:=Tryz.underlying0
 a0:=Tryz.isAgg0
 z0:=Tryz.sizeOf0
 v0:=Tryz.zeroValue0
 t3:=Tryz.underlying3
 a3:=Tryz.isAgg3
 z3:=Tryz.sizeOf3
 v3:=Tryz.zeroValue3
 t4:=Tryz.underlying4
 a4:=Tryz.isAgg4
 z4:=Tryz.sizeOf4
 v4:=Tryz.zeroValue4
 t5:=Tryz.underlying5
 a5:=Tryz.isAgg5
 z5:=Tryz.sizeOf5
 v5:=Tryz.zeroValue5
 t9:=Tryz.underlying9
 a9:=Tryz.isAgg9
 z9:=Tryz.sizeOf9
 v9:=Tryz.zeroValue9
 t22:=Tryz.underlying583
 a22:=Tryz.isAgg583
 z22:=Tryz.sizeOf583
 v22:=Tryz.zeroValue583
 t25:=Tryz.underlying588
 a25:=Tryz.isAgg588
 z25:=Tryz.sizeOf588
 v25:=Tryz.zeroValue588
 t39:=Tryz.underlying267
 a39:=Tryz.isAgg267
 z39:=Tryz.sizeOf267
 v39:=Tryz.zeroValue267
 t45:=Tryz.underlying623
 a45:=Tryz.isAgg623
 z45:=Tryz.sizeOf623
 v45:=Tryz.zeroValue623
 t46:=Tryz.underlying624
 a46:=Tryz.isAgg624
 z46:=Tryz.sizeOf624
 v46:=Tryz.zeroValue624
 t50:=Tryz.underlying628
 a50:=Tryz.isAgg628
 z50:=Tryz.sizeOf628
 v50:=Tryz.zeroValue628
 t53:=Tryz.underlying349
 a53:=Tryz.isAgg349
 z53:=Tryz.sizeOf349
 v53:=Tryz.zeroValue349
 t55:=Tryz.underlying153
 a55:=Tryz.isAgg153
 z55:=Tryz.sizeOf153
 v55:=Tryz.zeroValue153
 t66:=Tryz.underlying656
 a66:=Tryz.isAgg656
 z66:=Tryz.sizeOf656
 v66:=Tryz.zeroValue656
 t70:=Tryz.underlying659
 a70:=Tryz.isAgg659
 z70:=Tryz.sizeOf659
 v70:=Tryz.zeroValue659
 t76:=Tryz.underlying678
 a76:=Tryz.isAgg678
 z76:=Tryz.sizeOf678
 v76:=Tryz.zeroValue678
 t77:=Tryz.underlying679
 a77:=Tryz.isAgg679
 z77:=Tryz.sizeOf679
 v77:=Tryz.zeroValue679 }
def Tryz.cloneA4_ren:Go.Shelf.Ren:=⟨fun|5=>370|7=>303|n=>n,fun|23=>517|25=>286|3=>159|4=>4|20=>20|n=>n,fun|n=>n⟩
theorem Tryz.cloneA4:Go.Proofs.SlLaysW.n5 Tryz.prog Tryz.cloneA4_ren:={
 mixed:=by kernel_rfl
 f5:=⟨Tryz.f370.name,by decide,zt Tryz.func370⟩
 f7:=zt Tryz.func303
 t4:=Tryz.underlying4
 a4:=Tryz.isAgg4
 z4:=Tryz.sizeOf4
 v4:=Tryz.zeroValue4
 t20:=Tryz.underlying20
 a20:=Tryz.isAgg20
 z20:=Tryz.sizeOf20
 v20:=Tryz.zeroValue20
 t23:=Tryz.underlying517
 a23:=Tryz.isAgg517
 z23:=Tryz.sizeOf517
 v23:=Tryz.zeroValue517 }
def Tryz.joinA_ren:Go.Shelf.Ren:=⟨fun|156=>43|165=>81|166=>20|169=>22|240=>44|241=>133|276=>82|277=>217|n=>n,fun|31=>69|9=>9|3=>3|4=>4|0=>0|20=>20|72=>61|76=>65|70=>59|37=>38|75=>64|127=>99|164=>181|5=>5|80=>68|n=>n,fun|n=>n⟩
theorem Tryz.joinA:Go.Proofs.Lays.n156 Tryz.prog Tryz.joinA_ren:={
 mixed:=by kernel_rfl
 f156:=zt Tryz.func43
 f165:=zt Tryz.func81
 f166:=zt Tryz.func20
 f169:=zt Tryz.func22
 f240:=zt Tryz.func44
 f241:=zt Tryz.func133
 f276:=zt Tryz.func82
 f277:=zt Tryz.func217
 t0:=Tryz.underlying0
 a0:=Tryz.isAgg0
 z0:=Tryz.sizeOf0
 v0:=Tryz.zeroValue0
 t3:=Tryz.underlying3
 a3:=Tryz.isAgg3
 z3:=Tryz.sizeOf3
 v3:=Tryz.zeroValue3
 t4:=Tryz.underlying4
 a4:=Tryz.isAgg4
 z4:=Tryz.sizeOf4
 v4:=Tryz.zeroValue4
 t9:=Tryz.underlying9
 a9:=Tryz.isAgg9
 z9:=Tryz.sizeOf9
 v9:=Tryz.zeroValue9
 t20:=Tryz.underlying20
 a20:=Tryz.isAgg20
 z20:=Tryz.sizeOf20
 v20:=Tryz.zeroValue20
 t31:=Tryz.underlying69
 a31:=Tryz.isAgg69
 z31:=Tryz.sizeOf69
 v31:=Tryz.zeroValue69
 t37:=Tryz.underlying38
 a37:=Tryz.isAgg38
 z37:=Tryz.sizeOf38
 v37:=Tryz.zeroValue38
 t70:=Tryz.underlying59
 a70:=Tryz.isAgg59
 z70:=Tryz.sizeOf59
 v70:=Tryz.zeroValue59
 t72:=Tryz.underlying61
 a72:=Tryz.isAgg61
 z72:=Tryz.sizeOf61
 v72:=Tryz.zeroValue61
 t75:=Tryz.underlying64
 a75:=Tryz.isAgg64
 z75:=Tryz.sizeOf64
 v75:=Tryz.zeroValue64
 t76:=Tryz.underlying65
 a76:=Tryz.isAgg65
 z76:=Tryz.sizeOf65
 v76:=Tryz.zeroValue65
 t127:=Tryz.underlying99
 a127:=Tryz.isAgg99
 z127:=Tryz.sizeOf99
 v127:=Tryz.zeroValue99
 t164:=Tryz.underlying181
 a164:=Tryz.isAgg181
 z164:=Tryz.sizeOf181
 v164:=Tryz.zeroValue181 }
open Go.Shelf
def Tryz.sortI_ren:Go.Shelf.Ren:=⟨fun|5=>333|8=>398|7=>411|19=>446|20=>313|10=>449|11=>450|12=>451|13=>452|14=>453|15=>454|16=>455|17=>456|18=>457|30=>480|31=>475|32=>476|33=>481|34=>482|35=>483|40=>507|n=>n,fun|23=>399|25=>3|3=>3|32=>267|22=>399|0=>0|44=>349|46=>153|4=>4|36=>624|35=>623|41=>628|5=>5|9=>9|53=>656|57=>659|63=>678|64=>679|n=>n,fun|n=>n⟩
theorem Tryz.sortI:Go.Proofs.SlLaysM.n5 Tryz.prog Tryz.sortI_ren:={
 mixed:=by kernel_rfl
 f5:=⟨Tryz.f333.name,by decide,zt Tryz.func333⟩
 f7:=⟨Tryz.f411.name,by decide,zt Tryz.func411⟩
 f8:=zt Tryz.func398
 f10:=⟨Tryz.f449.name,by decide,zt Tryz.func449⟩
 f11:=⟨Tryz.f450.name,by decide,zt Tryz.func450⟩
 f12:=⟨Tryz.f451.name,by decide,zt Tryz.func451⟩
 f13:=⟨Tryz.f452.name,by decide,zt Tryz.func452⟩
 f14:=⟨Tryz.f453.name,by decide,zt Tryz.func453⟩
 f15:=⟨Tryz.f454.name,by decide,zt Tryz.func454⟩
 f16:=⟨Tryz.f455.name,by decide,zt Tryz.func455⟩
 f17:=⟨Tryz.f456.name,by decide,zt Tryz.func456⟩
 f18:=⟨Tryz.f457.name,by decide,zt Tryz.func457⟩
 f19:=zt Tryz.func446
 f20:=zt Tryz.func313
 f30:=⟨Tryz.f480.name,by decide,zt Tryz.func480⟩
 f31:=zt Tryz.func475
 f32:=zt Tryz.func476
 f33:=⟨Tryz.f481.name,by decide,zt Tryz.func481⟩
 f34:=⟨Tryz.f482.name,by decide,zt Tryz.func482⟩
 f35:=⟨Tryz.f483.name,by decide,zt Tryz.func483⟩
 f40:=⟨Tryz.f507.name,by decide,zt Tryz.func507⟩
 t0:=Tryz.underlying0
 a0:=Tryz.isAgg0
 z0:=Tryz.sizeOf0
 v0:=Tryz.zeroValue0
 t3:=Tryz.underlying3
 a3:=Tryz.isAgg3
 z3:=Tryz.sizeOf3
 v3:=Tryz.zeroValue3
 t4:=Tryz.underlying4
 a4:=Tryz.isAgg4
 z4:=Tryz.sizeOf4
 v4:=Tryz.zeroValue4
 t5:=Tryz.underlying5
 a5:=Tryz.isAgg5
 z5:=Tryz.sizeOf5
 v5:=Tryz.zeroValue5
 t9:=Tryz.underlying9
 a9:=Tryz.isAgg9
 z9:=Tryz.sizeOf9
 v9:=Tryz.zeroValue9
 t22:=Tryz.underlying399
 a22:=Tryz.isAgg399
 z22:=Tryz.sizeOf399
 v22:=Tryz.zeroValue399
 t23:=Tryz.underlying399
 a23:=Tryz.isAgg399
 z23:=Tryz.sizeOf399
 v23:=Tryz.zeroValue399
 t25:=Tryz.underlying3
 a25:=Tryz.isAgg3
 z25:=Tryz.sizeOf3
 v25:=Tryz.zeroValue3
 t32:=Tryz.underlying267
 a32:=Tryz.isAgg267
 z32:=Tryz.sizeOf267
 v32:=Tryz.zeroValue267
 t35:=Tryz.underlying623
 a35:=Tryz.isAgg623
 z35:=Tryz.sizeOf623
 v35:=Tryz.zeroValue623
 t36:=Tryz.underlying624
 a36:=Tryz.isAgg624
 z36:=Tryz.sizeOf624
 v36:=Tryz.zeroValue624
 t41:=Tryz.underlying628
 a41:=Tryz.isAgg628
 z41:=Tryz.sizeOf628
 v41:=Tryz.zeroValue628
 t44:=Tryz.underlying349
 a44:=Tryz.isAgg349
 z44:=Tryz.sizeOf349
 v44:=Tryz.zeroValue349
 t46:=Tryz.underlying153
 a46:=Tryz.isAgg153
 z46:=Tryz.sizeOf153
 v46:=Tryz.zeroValue153
 t53:=Tryz.underlying656
 a53:=Tryz.isAgg656
 z53:=Tryz.sizeOf656
 v53:=Tryz.zeroValue656
 t57:=Tryz.underlying659
 a57:=Tryz.isAgg659
 z57:=Tryz.sizeOf659
 v57:=Tryz.zeroValue659
 t63:=Tryz.underlying678
 a63:=Tryz.isAgg678
 z63:=Tryz.sizeOf678
 v63:=Tryz.zeroValue678
 t64:=Tryz.underlying679
 a64:=Tryz.isAgg679
 z64:=Tryz.sizeOf679
 v64:=Tryz.zeroValue679 }
end Go.Proofs.YtnjaappmhadfdaaGreatDoor
