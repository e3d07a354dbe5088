/-
  Lemmas for TaleBack: part 9 of what it rests on. Conditions: none.
-/
import Derived.Test.YtnjaappmhadfdaaGreatDoorTF8
set_option linter.unusedVariables false
set_option linter.unusedSimpArgs false
set_option maxRecDepth 100000
set_option maxHeartbeats 16000000
open Go.IntKind (i64 u64 i8 u8 i32 u32 i16 u16)
namespace Go.Proofs.YtnjaappmhadfdaaGreatDoor
open Go
structure Fm where
 w:List UInt8
 ys:List (Fk×FdX)
 a:Xa
 c:Nat
def Fm.z:Fm:=⟨[],[],none,0⟩
abbrev encFm(f:Fm):Value:=.agg ⟨[.string (bL f.w),.slice f.a f.ys.length f.c]⟩
structure FmIn(Q:aD)(f:Fm):Prop where
 row:bB Q f.a (aF bJ f.ys)
 ins:∀y∈f.ys,jA Q y.1 y.2
theorem FmIn.sub{Q Q':aD}{f:Fm}(h:FmIn Q f)(hs:aH Q Q'):FmIn Q' f:=⟨h.row.sub hs,λy a=>(h.ins y a).sub hs⟩
structure sg(Q:aD)(m:List (Int×Fm)):Prop where
 form:∀k f,aK k m=some f->fi k=some (f.w,f.ys.map Prod.fst)
 none_:∀k,aK k m=none->fi k=none
 ins:∀k f,aK k m=some f->FmIn Q f
theorem sg.sub{Q Q':aD}{m:List (Int×Fm)}(h:sg Q m)(hs:aH Q Q'):sg Q' m:=⟨h.form,h.none_,λk f a=>(h.ins k f a).sub hs⟩
theorem ux{k:Int}{w:List UInt8}{fs:List Fk}(h:fi k=some (w,fs)):fs.length<=4/\w.length<=7:=by
 obtain⟨n,rfl⟩:=qE h;have key:∀n:_root_.Fin 12,(match fi (n.val:Int) with|some (w,fs)=>decide (fs.length<=4)&&decide (w.length<=7)|none=>true)=true:=by decide
 have:=key n;rw[h]at this;simpa using this
theorem Me{α β:Type}(f:β->α->β)(b:β)(l:List α)(j:Nat)(h:j<l.length):(l.take (j+1)).foldl f b=f ((l.take j).foldl f b) l[j]:=by
 rw[We,List.getElem?_eq_getElem h,Wj,List.foldl_append];rfl
section
variable {F L:List aD}{H:aC}{K:KQ}{Q:aD}{e:Et}{ex:EtX}{mb:Nat}{ms:List (Int×Fm)}
theorem mt57:hD Tryz.prog 57 3 95 encFm Fm.z:=⟨Tryz.underlying57,by
 obtain⟨i,b,a⟩:∃i,Tryz.prog.info? 95=some i/\i.zero=some (.agg ⟨[.string ⟨#[]⟩,.slice none 0 0]⟩):=⟨_,rfl,rfl⟩;exact⟨i,b,a⟩⟩
theorem ko3i:jG Tryz.prog 3 I64ZZ:=ti Tryz.underlying3
theorem uy{c:UInt8}{n:Nat}:∀{xs:List (List UInt8)},(∀x∈xs,x.length<=n)->(Go.Lib.join xs [c]).length<=(n+1)*xs.length
 | [],_=>by simp[Go.Lib.join,List.intercalate]
 | [x],h=>by
  rw[Go.Lib.join_one];have:=h x (by simp);simp;omega
 | x::y::r,h=>by
  have d:=uy (c:=c) (xs:=y::r) λz b=>h z (VF _ b)
  have e:=h x (by simp);rw[joinC,V6,VA,VA (a:=x),Nat.mul_succ];omega
theorem Mf{a:Xa}{c n:Nat}{d:UInt8}{ws:List (List UInt8)}(D:ws.length=n)(h:aA H L)(i:aN H a (ws.map λs=>.string (bL s)))(y:0<n)(A:n<=1000000)(v:n<=c)
  (m:(Go.Lib.join ws [d]).length<=1000000000)
  (k:∀H',aA H' L->K (.string (bL (Go.Lib.join ws [d]))) H'):CF 43 #[.slice a n c,.string ⟨#[d]⟩] H K:=by
 subst D;refine .mk λw C=>?_
 subst C;obtain⟨xs,f⟩:∃xs,ws.map bL=xs:=⟨_,rfl⟩;have t:xs.map aR=ws:=by
  rw[<-f,Wg];have:(aR∘bL)=id:=funext λx=>jc x
  rw[this,List.map_id]
 have B:ws.length=xs.length:=by rw[<-f];simp
 have i:aN w.heap a (xs.map λs=>.string s):=by rw[<-f,Wg];exact i
 rw[<-t]at m k;rw[B]at y A v ⊢;have hs:=Gx i (by grind);rw[hs]at i ⊢;have b:∀(j:Nat) x,xs[j]?=some x->w.cell? ⟨aW a,aT a+j,none⟩=some (.string x):=by
  intro j x E;rw[cell?_cellAt];exact (i j (.string x) (by grind [fJ])).2
 have u:aW a<w.heap.size:=by
  have:=b 0 xs[0] (List.getElem?_eq_getElem y)
  grind [cell?_cellAt,aM]
 refine ib (Any.strings_Join Tryz.joinA Tryz.joinX (aW a) (aT a) c xs ⟨#[d]⟩ w b u (by omega) v (by grind)) ?_;rintro e F ⟨rfl,hb⟩;exact⟨_,rfl,ru hb,k _ (h.grow (rq hb))⟩
theorem Mg(a:EtW e){d:Fk}(hd:∀o l m,d=.whole o l m->1<=o/\o<=6):(wrF d e).length<=9000:=by
 cases d with
 | whole o l m=>
  obtain⟨c,b⟩:=a.num o (hd o l m rfl);have:=Go.Lib.itoa_length_le _ c b;show (Go.Lib.itoa _).length<=_;omega
 | keep=>
  have:=Go.Lib.itoa_length_le _ a.keep.1 a.keep.2;show (Go.Lib.itoa _).length<=_;omega
 | ser=>
  have:=Br (name:=e.nm) (labs:=e.labs);show (aR _).length<=_;rw[ko];omega
 | data=>
  have:=a.bl;show (hexL e.bs).length<=_
  by_cases h:e.bs=[]
  .rw [h];show 1<=_;omega
  .rw [xv h,Bq];omega
theorem Mh(g:Gl Q)(hm:sg Q ms)(G:EtW e)(Z:EtK Q e ex)(h:aA H (mapA I64ZZ encFm mb ms::Q::F))(k:∀Q' H',aH Q Q'->aA H' (mapA I64ZZ encFm mb ms::Q'::F)->K (.tuple #[.string (bL ((cO e).getD [])),.bool (cO e).isSome]) H') :
  CF 19 #[.map (some mb),.agg ⟨aY e ex⟩] H K:=by
 have W:=G.bl;refine cN 19 0x11d112156123992511d44dc [[(8,sS),(37,sI)]] (h.al λb H1 h=>?_)
 have D:=h.mp_get mt57 ko3i 1 rfl (x:=e.kind)
 cases hml:aK e.kind ms with
 | none=>
  rw[hml]at D;have L:cO e=none:=by unfold cO;rw[hm.none_ _ hml]
  rw[L]at k;refine⟨_,h.r 0,_,_,_,_,_,D,h.al λb1 _ h=>h.st 0 rfl rfl λH2 h=>⟨_,_,_,λ_=>h.r 1,λ_=>k Q _ (aH.refl Q) h.tl.tl,λs=>V0 s (by simp)⟩⟩
 | some fm=>
  have D:cZ Tryz.prog (Instr.lookup 57 (.map (some mb)) (I64ZZ e.kind) true) H1 (.tuple #[encFm fm,.bool true]):=by rw[hml]at D;exact D
  have E:=hm.form _ _ hml;have hi:=hm.ins _ _ hml;have h2:fm.ys.length<=4:=by have:=(ux E).1;simpa using this
  refine⟨_,h.r 0,_,_,_,_,_,D,h.al λb1 _ h=>h.st 0 rfl rfl λH2 h=>⟨_,_,_,λ_=>h.r 1,λs=>V0 s (by simp;omega),λ_=>?_⟩⟩
  have h:aA H2 (cellsA b1 [.string (bL fm.w),.slice fm.a fm.ys.length fm.c] 95::cellsA b (aY e ex) 40::mapA I64ZZ encFm mb ms::Q::F):=h;refine⟨_,h.r 0,h.al λb2 _ h=>⟨_,h.r 2,h.al λb3 _ h=>h.st 0 rfl rfl λH5 h=>⟨_,_,_,h.r 2,?_⟩⟩⟩
  have h:aA H5 (cellsA b3 (aY { kind:=e.kind } {}) 40::cellsA b2 [.string (bL fm.w)] 9::cellsA b1 [.string (bL fm.w),.slice fm.a fm.ys.length fm.c] 95::cellsA b (aY e ex) 40::mapA I64ZZ encFm mb ms::Q::F):=h;have h:=aA.sl_pt (cs:=[.string (bL fm.w)]) (e:=9) (h.o [1,0,3,4,5] 6) 1 1 rfl;obtain⟨fs,t⟩:∃fs,fm.ys.map Prod.fst=fs:=⟨_,rfl⟩;have h6:fs.length=fm.ys.length:=by rw[<-t];simp
  rw[t]at E;refine⟨λS wn wc i H'=>∃(j:Nat) (Q':aD) (bx:EtX),i=j/\j<=fm.ys.length/\wn=j+1/\aH Q Q'/\(∀d∈fs.take j,rdF d e=true)/\EtK Q' (iu e (fs.take j)) bx/\
    aA H' (slA 9 1 S (j+1) wc ((fk e fm.w (fs.take j)).map λx=>.string (bL x))::cellsA b3 (aY (iu e (fs.take j)) bx) 40::cellsA b (aY e ex) 40::mapA I64ZZ encFm mb ms::Q'::F),
   λ_ _ _ i _=>fm.ys.length-i.toNat,⟨0,Q,{},rfl,by omega,rfl,aH.refl Q,(by simp),⟨bB.nil Q none,bB.nil Q none⟩,h⟩,?_⟩
  clear h
  rintro S wn wc i H6 ⟨j,Q',bx,rfl,hj,rfl,hs,C,u,h⟩;refine⟨λO=>?_,λO=>?_⟩
  .have v:j<fm.ys.length:=by grind
   have hw:i64.wrap ((j:Int)+1)=((j+1:Nat):Int):=by grind [aJ]
   have B:=(hi.row.sub hs).at h 4 rfl;refine⟨⟨by omega,by omega⟩,_,_,B.some xt (by decide) v,_,_,_,_,B.els xt v,h.al λb5 _ h=>h.st 0 rfl rfl λH8 h=>?_⟩
   have h:aA H8 (cellsA b5 (bJ fm.ys[j]) 87::slA 9 1 S (j+1) wc ((fk e fm.w (fs.take j)).map λx=>.string (bL x))::cellsA b3 (aY (iu e (fs.take j)) bx) 40::cellsA b (aY e ex) 40::mapA I64ZZ encFm mb ms::Q'::F):=h
   have A:j<fs.length:=by omega
   have hd:fs[j]=fm.ys[j].1:=by subst t;simp
   have M:=(hi.ins _ (V7 v)).sub hs;have N:iu e (fs.take (j+1))=cpF fm.ys[j].1 e (iu e (fs.take j)):=by unfold iu;rw[Me _ _ _ _ A,hd]
   have h0:fk e fm.w (fs.take (j+1))=fk e fm.w (fs.take j)++[wrF fm.ys[j].1 e]:=by
    unfold fk;rw[We,List.getElem?_eq_getElem A,Wj,VS,hd];rfl
   refine⟨fv (wrN fm.ys[j].1) (wrC fm.ys[j].1 fm.ys[j].2),h.r 0,UM _,Wr_spec (g.sub hs) M G (Z.sub hs) (h.o [3,5,0,1,2,4] 6) λH9 h=>⟨_,rfl,fv (rdN fm.ys[j].1) (rdC fm.ys[j].1 fm.ys[j].2),h.r 2,LZ _,?_⟩⟩
   refine Mb (g.sub hs) M G u (h.o [4,1,0,2,3,5] 6) (λB Q2 R T P I h=>⟨_,rfl,λs=>V0 s (by simp),λ_=>h.al λb6 h5 h=>?_⟩) λB T h=>⟨_,rfl,λ_=>?_,λs=>V0 s (by simp)⟩
   .
    refine aA.append (m:=1) sl294 h 5 rfl (h.ce_rd 0 rfl) rfl rfl (by omega) (by omega) λa' c' h4 h=>⟨_,_,_,rfl,⟨j+1,Q2,R,hw,v,rfl,hs.trans P,λd f=>?_,by rw[N];exact I,?_⟩,by grind⟩
    .rw [We,List.getElem?_eq_getElem A,Wj,VJ,VH]at f
     rcases f with f|rfl
     .exact C d f
     .rw [hd];exact B
    .rw [N,h0,VS];exact h.o [5,1,3,6,2] 7
   .have L:cO e=none:=by
     unfold cO;rw[E];have:fs.all (λd=>rdF d e)=false:=by
      rw[List.all_eq_false];exact⟨fs[j],V7 A,by rw[hd,B];simp⟩
     simp[this]
    rw[L]at k;exact k Q' _ hs (h.o [5,1] 6)
  .have h3:j=fm.ys.length:=by grind
   have U:fs.take j=fs:=VM (by omega);rw[U]at C u h;refine⟨_,_,_,_,_,_,_,_,_,_,_,_,_,_,_,h.q 2,_,_,_,_,_,_,_,_,_,_,_,_,_,_,_,h.q 1,?_⟩;refine UF (x:=e) (y:=iu e fs) (ex:=ex) (ey:=bx) (λH h=>(Z.sub hs).lab.at h 4 rfl) (λH h=>(Z.sub hs).bs.at h 4 rfl) (λH h=>u.lab.at h 4 rfl) (λH h=>u.bs.at h 4 rfl) G.ll (by omega) h λH7 h=>⟨_,rfl,λs=>?_,λs=>?_⟩
   .have L:cO e=none:=by
     unfold cO;rw[E];have Y:¬(iu e fs=e):=λhe=>by rw[he]at s;simp at s
     simp[Y]
    rw[L]at k;exact k Q' _ hs (h.o [3,4] 5)
   .have he:iu e fs=e:=by
     have:decide (e=iu e fs)=true:=by simpa using s
     exact (V3 this).symm
    have hl:cO e=some (Go.Lib.join (fk e fm.w fs) [32]):=by
     unfold cO;rw[E];have:fs.all (λd=>rdF d e)=true:=VK.2 C
     simp[this,he,W]
    rw[hl]at k;have J:(fk e fm.w fs).length=j+1:=by simp[fk];omega
    have V:(Go.Lib.join (fk e fm.w fs) [32]).length<=1000000000:=by
     have:=uy (c:=32) (n:=9000) (xs:=fk e fm.w fs) λx O=>by
      rcases V9.1 O with rfl|O
      .have:=(ux E).2;omega
      .obtain⟨d,f,rfl⟩:=V8.1 O;refine Mg G λo l m ho=>?_
       rw[<-t]at f;obtain⟨y,hy,rfl⟩:=V8.1 f;have:=hi.ins y hy;rw[ho]at this;exact this.1
     rw[J]at this;have:9001*(j+1)<=9001*5:=Wy _ (by omega);omega
    have B:=h.sl_rd 0 rfl;have h1:=h.sl_nc 0 rfl;exact Mf (d:=32) J h B (by omega) (by omega) h1 V λH8 h=>⟨_,rfl,k Q' _ hs (h.o [3,4] 5)⟩
end
section
variable {F L:List aD}{H:aC}{K:KQ}{Q:aD}
theorem Mi{o:Nat}{l m:Int}(j:1<=o/\o<=6)(h:aA H (Q::F))(k:∀Q' x H',aH Q Q'->jA Q' (.whole o l m) x->aA H' (Q'::F)->K (.agg ⟨bJ (.whole o l m,x)⟩) H') :
  CF 31 #[fv (fnO o) [],I64ZZ l,I64ZZ m] H K:=by
 refine cM 31 28 (h.al λb1 _ h=>h.al λb2 _ h=>h.al λb3 _ h=>h.al λb4 _ h=>h.st 0 rfl rfl λi h=>⟨_,_,_,_,h.q 0,?_⟩)
 have h:aA i (cellsA b4 (bJ (.whole o l m,⟨b1,b2,b3⟩)) 87::cellsA b3 [I64ZZ m] 2::cellsA b2 [I64ZZ l] 2::cellsA b1 [fv (fnO o) []] 91::Q::F):=h;obtain⟨e,c⟩:∃e,e=cellsA b1 [fv (fnO o) []] 91*Q:=⟨_,rfl⟩;have h:=lv c (h.o [3,4,1,2] 5);obtain⟨Q2,d⟩:∃Q2,Q2=cellsA b2 [I64ZZ l] 2*e:=⟨_,rfl⟩;have h:=lv d (h.o [2,0,1] 3);obtain⟨f,a⟩:∃f,f=cellsA b3 [I64ZZ m] 2*Q2:=⟨_,rfl⟩;have h:=lv a (h.o [1,0] 2);have s1:aH Q e:=by rw[c];exact aH.add _ Q
 have s2:aH e Q2:=by rw[d];exact aH.add _ e
 have s3:aH Q2 f:=by rw[a];exact aH.add _ Q2
 have kin:∀{b t:Nat} {cs:Xb} {Q:aD},bB (cellsA b cs t*Q) (some ⟨b,0,none⟩) cs:=λ{b t cs Q} H F h=>(iI.1 h).ce_rd 0 rfl
 refine k f ⟨b1,b2,b3⟩ _ ((s1.trans s2).trans s3) ⟨j,?_,?_,?_⟩ h
 .have:bB e (some ⟨b1,0,none⟩) [fv (fnO o) []]:=by rw[c];exact kin
  exact (this.sub s2).sub s3
 .have:bB Q2 (some ⟨b2,0,none⟩) [I64ZZ l]:=by rw[d];exact kin
  exact this.sub s3
 .rw [a];exact kin
theorem uz{o:Nat}(a:1<=o/\o<=6)(h:aA H (Q::F))(k:∀Q' x H',aH Q Q'->jA Q' (fN o) x->aA H' (Q'::F)->K (.agg ⟨bJ (fN o,x)⟩) H') :
  CF 33 #[fv (fnO o) []] H K:=by
 refine cM 33 28 (h.al λb _ h=>?_)
 refine Mi a (h.o [1,0] 2) λQ' x c hs hi h=>⟨_,_,_,_,rfl,h.st 1 rfl rfl λH2 h=>⟨_,_,_,_,h.q 1,k Q' x _ hs hi (h.o [0] 2)⟩⟩
theorem UP(h:aA H F)(k:∀H',aA H' F->K (.agg ⟨bJ (.keep,{})⟩) H'):CF 41 #[] H K:=
 cM 41 28 (h.al λb _ h=>h.st 0 rfl rfl λa h=>⟨_,_,_,_,h.q 0,k _ h.tl⟩)
theorem UQ(h:aA H F)(k:∀H',aA H' F->K (.agg ⟨bJ (.ser,{})⟩) H'):CF 39 #[] H K:=
 cM 39 28 (h.al λb _ h=>h.st 0 rfl rfl λa h=>⟨_,_,_,_,h.q 0,k _ h.tl⟩)
theorem US(h:aA H F)(k:∀H',aA H' F->K (.agg ⟨bJ (.data,{})⟩) H'):CF 40 #[] H K:=
 cM 40 28 (h.al λb _ h=>h.st 0 rfl rfl λa h=>⟨_,_,_,_,h.q 0,k _ h.tl⟩)
end
section
variable {X:bX}{ops:Array Oper}{i:Nat}{k:Fr->aC->Prop}{fr:Fr}{H:aC}{ty:TypeId}{ps:String}{af:Array Edge}{d:Option Tmp}{op:Op}
theorem ph(b:aI ops.toList i=some ⟨d,op,ty,ps,af,none⟩)(a:iP X op=.W)(h:px X (evG ops fr [] none) ⟨d,op,ty,ps,af,none⟩ H λv H'=>k (fr.put d (.p v)) H'):gX X ops i k fr H:=by
 unfold gX;rw[b];simp only[a];unfold vcW
 cases d <;> exact h
theorem one_r(b:aI ops.toList i=some ⟨d,op,ty,ps,af,none⟩)(a:iP X op=.R)(h:sF X (evG ops fr [] none) none ⟨d,op,ty,ps,af,none⟩ H λv _=>k (fr.put d (.p v)) H):gX X ops i k fr H:=by
 unfold gX;rw[b];simp only[a];unfold vcPR
 cases d <;> (simp only[kM,a];exact h)
theorem one_p(b:aI ops.toList i=some ⟨d,op,ty,ps,af,none⟩)(a:iP X op=.P)(h:qN X (evG ops fr [] none) (pkG ops fr [] none) none op λv=>k (fr.put d (.p v)) H):gX X ops i k fr H:=by
 unfold gX;rw[b];simp only[a];unfold vcPR
 cases d <;> (simp only[kM,a];exact h)
theorem si{kn:Kn}{gd:Option (Nat×Bool)}{t:Nat}{v:Value}(h:aI fr t=some (.p v)):evG ops fr kn gd (.tmp t)=some v:=by simp[evG,h]
theorem qF{l:List Bool}(h:i∈dz ops ⟨l⟩):aI l i=some false:=by
 unfold dz at h;obtain⟨-,h⟩:=Ws.1 h;simp only[V4,Wa]at h;have:=h.1;rw[dq];simp only[W6,List.getElem?_toArray]at this
 cases hl:l[i]? with
 | none=>rw[hl]at this;simp at this
 | some b=>rw[hl]at this;simp at this;rw[this]
theorem cz{l:List Bool}{o:Oper}(h:i∈dz ops ⟨l⟩)(c:aI ops.toList i=some o)(j:Nat)(d:(o.after.toList.any λe=>Region.binds .any e&&decide (e.on=j))=true):aI l j=some true:=by
 unfold dz at h;obtain⟨-,h⟩:=Ws.1 h;simp only[V4]at h;have a:=h.2;rw[dq]at c;rw[<-Array.getElem?_toList,c]at a;simp only[VT,Option.getD_some,VK]at a;obtain⟨e,f,hb⟩:=List.any_eq_true.1 d;simp only[V4,V5]at hb;have:=a e f;rw[hb.1,hb.2]at this;simp only[Bool.not_true,WE,W6,List.getElem?_toArray]at this;rw[dq]
 cases hl:l[j]? with
 | none=>rw[hl]at this;simp at this
 | some b=>rw[hl]at this;simp at this;rw[this]
theorem rdy_all{l:List Bool}(f:l.length=ops.size)(d:((List.range ops.size).all λi=>match aI ops.toList i with|some o=>o.after.toList.all λe=>Nat.blt e.on i|none=>false)=true)(h:dz ops ⟨l⟩=[]):∀i,i<ops.size->aI l i=some true:=by
 intro i
 induction i using Nat.strongRecOn with
 | _ i ih=>
  intro hi;have a:aI l i=some (l[i]'(by omega)):=by rw[dq];simp[f,hi]
  cases hb:l[i]'(by omega) with
  | true=>rw[a,hb]
  | false=>
   rw[hb]at a;have hm:i∈dz ops ⟨l⟩:=by
    unfold dz;refine Ws.2 ⟨Wh.2 hi,?_⟩;have:=VK.1 d i (Wh.2 hi);rw[dq]at a this;rw[Array.getElem?_toList]at this;simp only[V4,Wa,W6,List.getElem?_toArray,a];refine⟨rfl,?_⟩
    cases ho:ops[i]? with
    | none=>rw[ho]at this;simp at this
    | some o=>
     rw[ho]at this;simp only[VT,Option.getD_some,VK]at this ⊢;intro e j;have b:e.on<i:=by have:=this e j;simpa[Nat.blt_eq] using this
     have c:=ih e.on b (by omega);rw[dq]at c;simp[c]
   rw[h]at hm
   cases hm
end
inductive FK where
 | mk
 | fd (d:Fk) (t:Nat)
 | sl (ds:List Fk) (t:Nat)
 | bd (k:Int) (t:Nat)
 | ins (k:Int)
 | cp (t:Nat)
def FK.slot:FK->Nat
 | .mk=>13
 | .fd _ t=>t
 | .sl _ t=>t
 | .bd _ t=>t
 | .ins _=>99
 | .cp t=>t
def fks:List FK:=[.mk,.fd (fN 2) 14,.sl [fN 2] 15,.bd 0 16,.ins 0,.fd (fA) 17,.fd (fN 4) 18,.sl [fA,fN 4] 19,.bd 1 20,.ins 1,.fd (fA) 21,.fd (fN 3) 22,.fd (fN 5) 23,.fd .ser 24,.sl [fA,fN 3,fN 5,.ser] 25,.bd 2 26,.ins 2,.fd (fA) 27,.fd (fN 3) 28,.sl [fA,fN 3] 29,.bd 3 30,.ins 3,.fd (fN 6) 31,.fd (fN 3) 32,.sl [fN 6,fN 3] 33,.bd 4 34,.ins 4,.fd (fN 6) 35,.sl [fN 6] 36,.bd 5 37,.ins 5,.fd (fN 6) 38,.sl [fN 6] 39,.bd 6 40,.ins 6,.fd (fA) 41,.fd .data 42,.sl [fA,.data] 43,.bd 7 44,.ins 7,.bd 8 45,.ins 8,.bd 9 46,.ins 9,.bd 10 47,.ins 10,.fd .keep 48,.sl [.keep] 49,.bd 11 50,.ins 11,.cp 51,.cp 0]
def gdF(Q:aD)(mb:Nat)(ms:List (Int×Fm))(fr:Fr):FK->Prop
 | .mk=>aI fr 13=some (.p (.map (some mb)))
 | .fd d t=>∃x,aI fr t=some (.p (.agg ⟨bJ (d,x)⟩))/\jA Q d x
 | .sl ds t=>∃f:Fm,f.ys.map Prod.fst=ds/\aI fr t=some (.p (.slice f.a f.ys.length f.c))/\FmIn Q f
 | .bd k t=>∃f:Fm,fi k=some (f.w,f.ys.map Prod.fst)/\aI fr t=some (.p (encFm f))/\FmIn Q f
 | .ins k=>∃f,aK k ms=some f
 | .cp t=>aI fr t=some (.p (.map (some mb)))
def imF(Q:aD)(ms:List (Int×Fm)):Prop:=∀k f,aK k ms=some f->fi k=some (f.w,f.ys.map Prod.fst)/\FmIn Q f
def mH(i:Nat):Nat:=match aI fks i with|some κ=>κ.slot|none=>99
theorem UT:((List.range 52).all λi=>(decide (7<=mH i)||decide (mH i=0))&&(decide (mH i<52)||decide (mH i=99))&&(List.range 52).all λj=>decide (i=j)||decide (mH i=99)||decide (mH i≠mH j))=true:=by kernel_rfl
theorem Bt{i j:Nat}{κ κ':FK}(hi:aI fks i=some κ)(b:aI fks j=some κ')(c:i≠j)(d:κ.slot≠99):κ.slot≠κ'.slot/\κ.slot<52/\(7<=κ.slot\/κ.slot=0):=by
 have f:i<52:=lI hi;have e:j<52:=lI b;have h:=VK.1 UT i (Wh.2 f);simp only[V4]at h;have a:=VK.1 h.2 j (Wh.2 e);have e1:mH i=κ.slot:=by unfold mH;rw[hi]
 have e2:mH j=κ'.slot:=by unfold mH;rw[b]
 rw[e1]at h a;rw[e2]at a;simp only[VY,V5]at h a;refine⟨λk=>?_,by omega,by omega⟩
 rcases a with (a|a)|a
 .exact c a
 .exact d a
 .exact a k
theorem imF.sub{Q Q':aD}{ms:List (Int×Fm)}(h:imF Q ms)(hs:aH Q Q'):imF Q' ms:=λk f a=>⟨(h k f a).1,(h k f a).2.sub hs⟩
theorem gdF.sub{Q Q':aD}{mb:Nat}{ms:List (Int×Fm)}{fr:Fr}{κ:FK}(h:gdF Q mb ms fr κ)(hs:aH Q Q'):gdF Q' mb ms fr κ:=by
 cases κ with
 | mk=>exact h
 | fd d t=>obtain⟨x,b,a⟩:=h;exact⟨x,b,a.sub hs⟩
 | sl ds t=>obtain⟨x,c,b,a⟩:=h;exact⟨x,c,b,a.sub hs⟩
 | bd k t=>obtain⟨x,c,b,a⟩:=h;exact⟨x,c,b,a.sub hs⟩
 | ins k=>exact h
 | cp t=>exact h
theorem gdF.put{Q:aD}{mb:Nat}{ms:List (Int×Fm)}{fr:Fr}{κ:FK}{t:Nat}{s:SV}(h:gdF Q mb ms fr κ)(b:t≠13)(a:t≠κ.slot):gdF Q mb ms (dP fr t s) κ:=by
 have key:∀u,t≠u->aI (dP fr t s) u=aI fr u:=λu c=>by rw[eV,Vz (λe=>c e.1)]
 cases κ with
 | mk=>simp only[gdF]at h ⊢;rw[key _ b];exact h
 | fd d u=>simp only[gdF]at h ⊢;rw[key u a];exact h
 | sl ds u=>simp only[gdF]at h ⊢;rw[key u a];exact h
 | bd k u=>simp only[gdF]at h ⊢;rw[key u a];exact h
 | ins k=>exact h
 | cp u=>simp only[gdF]at h ⊢;rw[key u a];exact h
structure FI(bf:Nat->Nat)(xf:Nat->FdX)(F:List aD)(Q:aD)(l:List Bool)(fr:Fr)(H:aC)(Q':aD)(mb:Nat)(ms:List (Int×Fm))(T:List aD):Prop where
 sub:aH Q Q'
 len:l.length=52
 flen:fr.length=52
 src:∀j,1<=j->j<=6->aI fr j=some (.p (PA (bf j) 0))
 ok:∀i κ,aI fks i=some κ->aI l i=some true->gdF Q' mb ms fr κ
 im:imF Q' ms
 tl0:aI l 0=some true->T=mapA aB encFm mb ms::F
 tl1:aI l 0=some false->T=F/\ms=[]
 c50:∀i t,aI fks i=some (.cp t)->aI l i=some true->aI l 0=some true
 sat:aA H (cellsA (bf 1) (bJ (fA,xf 1)) 87::cellsA (bf 2) (bJ (fN 2,xf 2)) 87::cellsA (bf 3) (bJ (fN 3,xf 3)) 87::cellsA (bf 4) (bJ (fN 4,xf 4)) 87::cellsA (bf 5) (bJ (fN 5,xf 5)) 87::cellsA (bf 6) (bJ (fN 6,xf 6)) 87::Q'::T)
abbrev FIx(bf:Nat->Nat)(xf:Nat->FdX)(F:List aD)(Q:aD)(l:List Bool)(fr:Fr)(H:aC):Prop:=∃Q' mb ms T,FI bf xf F Q l fr H Q' mb ms T
theorem lgetS{l:List Bool}{i j:Nat}(h:aI (l.set i true) j=some true):j=i\/aI l j=some true:=by
 rw[dq,List.getElem?_set]at h;rw[dq]
 grind
theorem qG{l:List Bool}{i j:Nat}(h:i≠j):aI (l.set i true) j=aI l j:=by
 rw[dq,dq,List.getElem?_set]
 grind
section
variable {bf:Nat->Nat}{xf:Nat->FdX}{F T:List aD}{Q Q' Q2:aD}{l:List Bool}{fr:Fr}{H H2:aC}{mb:Nat}{ms:List (Int×Fm)}{i t:Nat}{κ:FK}{s:SV}
theorem FI.put(I:FI bf xf F Q l fr H Q' mb ms T)(hκ:aI fks i=some κ)(hi:aI l i=some false)(m:κ.slot=t)(d:i≠0)(f:t≠99)(k:∀t,κ=.cp t->aI l 0=some true)(hs:aH Q' Q2)(n:gdF Q2 mb ms (dP fr t s) κ)
  (h:aA H2 (cellsA (bf 1) (bJ (fA,xf 1)) 87::cellsA (bf 2) (bJ (fN 2,xf 2)) 87::cellsA (bf 3) (bJ (fN 3,xf 3)) 87::cellsA (bf 4) (bJ (fN 4,xf 4)) 87::cellsA (bf 5) (bJ (fN 5,xf 5)) 87::cellsA (bf 6) (bJ (fN 6,xf 6)) 87::Q2::T)) :
  FI bf xf F Q (l.set i true) (dP fr t s) H2 Q2 mb ms T:=by
 subst m;have c:=Bt (i:=i) (j:=0) hκ rfl d f;refine⟨I.sub.trans hs,by simp[I.len],by rw[nJ];exact I.flen,λj u v=>?_,λj κ' b a=>?_,I.im.sub hs,λa=>I.tl0 ?_,λa=>I.tl1 ?_,λj w b a=>?_,h⟩
 .rw [eV,Vz (λk=>by have:=c.2.2;omega)];exact I.src j u v
 .by_cases hn:i=j
  .subst hn;rw[hκ]at b;cases b;exact n
  .have e:aI l j=some true:=by rw[qG hn]at a;exact a
   exact ((I.ok j κ' b e).sub hs).put c.1 (Bt hκ b hn f).1
 .rwa [qG d]at a
 .rwa [qG d]at a
 .rw [qG d]
  by_cases hn:i=j
  .subst hn;rw[hκ]at b;cases b;exact k _ rfl
  .rw [qG hn]at a;exact I.c50 j w b a
end
section
variable {bf:Nat->Nat}{xf:Nat->FdX}{F T:List aD}{Q Q' Q2:aD}{l:List Bool}{fr:Fr}{H H2:aC}{mb:Nat}{ms:List (Int×Fm)}{i t:Nat}{κ:FK}{s:SV}{Y:bX}{ops:Array Oper}{k:Fr->aC->Prop}{ty:TypeId}{ps:String}{af:Array Edge}
abbrev NX(bf:Nat->Nat)(xf:Nat->FdX)(F:List aD)(Q:aD)(l:List Bool)(k:Fr->aC->Prop):Prop:=∀fr' H',FIx bf xf F Q l fr' H'->k fr' H'
def XsIn(Q:aD)(xf:Nat->FdX):Prop:=∀j,1<=j->j<=6->jA Q (if j=1 then fA else fN j) (xf j)
theorem ld_at(I:FI bf xf F Q l fr H Q' mb ms T){j:Nat}(a:1<=j/\j<=6):bV H (bf j) 0 (bJ (if j=1 then fA else fN j,xf j)):=by
 obtain⟨a,b⟩:=a;have:j=1\/j=2\/j=3\/j=4\/j=5\/j=6:=by omega
 rcases this with rfl|rfl|rfl|rfl|rfl|rfl
 .exact I.sat.q 0
 .exact I.sat.q 1
 .exact I.sat.q 2
 .exact I.sat.q 3
 .exact I.sat.q 4
 .exact I.sat.q 5
theorem sLd{j:Nat}(b:Y.P=Tryz.prog)(f:XsIn Q xf)(I:FI bf xf F Q l fr H Q' mb ms T)(hi:i∈dz ops ⟨l⟩)(a:1<=j/\j<=6)(e:i≠0)(m:aI ops.toList i=some ⟨some t,.load 87 (.tmp j),ty,ps,af,none⟩)(hκ:aI fks i=some (.fd (if j=1 then fA else fN j) t))(c:t<52)(kk:NX bf xf F Q (l.set i true) k):gX Y ops i k fr H:=by
 refine one_r m rfl ?_
 cases Y
 subst b;have n:evG ops fr [] none (.tmp j)=some (PA (bf j) 0):=si (I.src j a.1 a.2);show bA (evG ops fr [] none (.tmp j)) _;rw[n];refine⟨_,_,_,_,ld_at I a,kk _ _ ⟨_,_,_,_,I.put hκ (qF hi) rfl e (by omega) (λ_ d=>by cases d) (aH.refl Q') ⟨xf j,?_,(f j a.1 a.2).sub I.sub⟩ I.sat⟩⟩
 rw[eV,V1 ⟨rfl,by rw[I.flen];exact c⟩]
theorem sCp{s:Nat}(j:Y.P=Tryz.prog)(I:FI bf xf F Q l fr H Q' mb ms T)(hi:i∈dz ops ⟨l⟩)(a:aI ops.toList i=some ⟨some t,.move (.tmp s),ty,ps,af,none⟩\/aI ops.toList i=some ⟨some t,.assign (.tmp s),ty,ps,af,none⟩)(hs:aI fr s=some (.p (.map (some mb))))(b:aI l 0=some true)(hκ:aI fks i=some (.cp t))(f:i≠0)(e:t<52)(kk:NX bf xf F Q (l.set i true) k):gX Y ops i k fr H:=by
 have d:evG ops fr [] none (.tmp s)=some (.map (some mb)):=si hs;have c:k (dP fr t (.p (.map (some mb)))) H:=by
  refine kk _ _ ⟨_,_,_,_,I.put hκ (qF hi) rfl f (by omega) (λ_ _=>b) (aH.refl Q') ?_ I.sat⟩
  show aI _ t=_;rw[eV,V1 ⟨rfl,by rw[I.flen];exact e⟩]
 rcases a with a|a
 .refine one_p a rfl ?_;show bA (evG ops fr [] none (.tmp s)) _;rw[d];exact c
 .refine one_p a rfl ?_;show bA (evG ops fr [] none (.tmp s)) _;rw[d];exact c
theorem sCall{d:Fk}{x:FdX}(I:FI bf xf F Q l fr H Q' mb ms T)(hi:i∈dz ops ⟨l⟩)(c:i≠0)(hκ:aI fks i=some (.fd d t))(a:t<52)(hd:jA Q' d x)(h:aA H2 (Q'::cellsA (bf 1) (bJ (fA,xf 1)) 87::cellsA (bf 2) (bJ (fN 2,xf 2)) 87::cellsA (bf 3) (bJ (fN 3,xf 3)) 87::cellsA (bf 4) (bJ (fN 4,xf 4)) 87::cellsA (bf 5) (bJ (fN 5,xf 5)) 87::cellsA (bf 6) (bJ (fN 6,xf 6)) 87::T))(kk:NX bf xf F Q (l.set i true) k):k (Fr.put fr (some t) (.p (.agg ⟨bJ (d,x)⟩))) H2:=by
 refine kk _ _ ⟨_,_,_,_,I.put hκ (qF hi) rfl c (by omega) (λ_ b=>by cases b) (aH.refl Q') ⟨x,?_,hd⟩ (h.o [1,2,3,4,5,6,0] 7)⟩
 rw[eV,V1 ⟨rfl,by rw[I.flen];exact a⟩]
theorem sSl{ys:List (Fk×FdX)}{ds:List Fk}{b n:Nat}(I:FI bf xf F Q l fr H Q' mb ms T)(hi:i∈dz ops ⟨l⟩)(s:i≠0)(hκ:aI fks i=some (.sl ds t))(e:t<52)(hd:ys.map Prod.fst=ds)(d:ys.length=n)(c:∀y∈ys,jA Q' y.1 y.2)
  (h:aA H2 (cellsA b (aF bJ ys) 87::cellsA (bf 1) (bJ (fA,xf 1)) 87::cellsA (bf 2) (bJ (fN 2,xf 2)) 87::cellsA (bf 3) (bJ (fN 3,xf 3)) 87::cellsA (bf 4) (bJ (fN 4,xf 4)) 87::cellsA (bf 5) (bJ (fN 5,xf 5)) 87::cellsA (bf 6) (bJ (fN 6,xf 6)) 87::Q'::T)) (kk:NX bf xf F Q (l.set i true) k):k (Fr.put fr (some t) (.p (.slice (some ⟨b,0,none⟩) n n))) H2:=by
 obtain⟨Q2,a⟩:∃Q2,Q2=cellsA b (aF bJ ys) 87*Q':=⟨_,rfl⟩;have h:=lv a (h.o [0,7,1,2,3,4,5,6] 8);have hs:aH Q' Q2:=by rw[a];exact aH.add _ Q'
 have m:bB Q2 (some ⟨b,0,none⟩) (aF bJ ys):=by rw[a];exact λH F h=>(iI.1 h).ce_rd 0 rfl
 refine kk _ _ ⟨_,_,_,_,I.put hκ (qF hi) rfl s (by omega) (λ_ f=>by cases f) hs ⟨⟨[],ys,some ⟨b,0,none⟩,n⟩,hd,?_,m,λy j=>(c y j).sub hs⟩ (h.o [1,2,3,4,5,6,0] 7)⟩
 rw[eV,V1 ⟨rfl,by rw[I.flen];exact e⟩,d]
theorem ov{ev:Operand->Option Value}{n:Nat}{x:Operand}{v:Value}{r:List (Nat×Operand)}{vs:List (Nat×Value)}(b:ev x=some v)(a:jB ev r=some vs):jB ev ((n,x)::r)=some ((n,v)::vs):=by rw[jB,b,a]
theorem w_bs{ev:Operand->Option Value}{n:Nat}{pa:List (Nat×Operand)}{vs:List (Nat×Value)}{ls:Xb}{o:Oper}{K:KQ}(c:Y.P=Tryz.prog)(a:o.op=.buildSlice 93 n ⟨pa⟩)(i:jB ev pa=some vs)(hb:qM Tryz.prog 87 n vs=some ls)(j:n<=4)(h:aA H F)(k:∀b H',aA H' (cellsA b ls 87::F)->K (.slice (some ⟨b,0,none⟩) n n) H'):px Y ev o H K:=by
 cases Y
 subst c;unfold px;rw[a];show bA (jB ev pa) _;rw[i];have d:Tryz.prog.underlying 93=some (.slice 87):=by kernel_rfl
 have f:Tryz.prog.cellsOf 87=2:=by kernel_rfl
 show (match Tryz.prog.underlying 93 with|some (.slice e)=>bA (qM Tryz.prog e n vs) λl=>(if n*Tryz.prog.cellsOf e<=16777216 then ∀(b:Nat) (H':aC),b=H.size->H'=H.push (.cells ⟨l⟩ e)->K (.slice (some ⟨b,0,none⟩) n n) H' else False)|_=>False)
 rw[d];show bA (qM Tryz.prog 87 n vs) _;rw[hb];show (if n*Tryz.prog.cellsOf 87<=16777216 then _ else False)
 rw[f,pO];exact h.al k
theorem qH{j t:Nat}{d:Fk}(I:FI bf xf F Q l fr H Q' mb ms T)(a:aI fks j=some (.fd d t))(b:aI l j=some true):∃x,evG ops fr [] none (.tmp t)=some (.agg ⟨bJ (d,x)⟩)/\jA Q' d x:=by
 obtain⟨x,e,c⟩:=I.ok j _ a b;exact⟨x,si e,c⟩
theorem sSl1{i1 t1:Nat}{d1:Fk}(a:Y.P=Tryz.prog)(I:FI bf xf F Q l fr H Q' mb ms T)(hi:i∈dz ops ⟨l⟩)(e:i≠0)(d:aI ops.toList i=some ⟨some t,.buildSlice 93 1 #[(0,.tmp t1)],ty,ps,af,none⟩)(hκ:aI fks i=some (.sl [d1] t))(c:t<52)
  (f1:aI fks i1=some (.fd d1 t1)) (l1:aI l i1=some true) (kk:NX bf xf F Q (l.set i true) k):gX Y ops i k fr H:=by
 obtain⟨x1,e1,g1⟩:=qH (ops:=ops) I f1 l1;refine ph d rfl (w_bs a rfl (ov e1 rfl) (ls:=aF bJ [(d1,x1)]) rfl (by omega) I.sat λb H2 h=>sSl (ys:=[(d1,x1)]) I hi e hκ c rfl rfl (by simpa using g1) h kk)
theorem sSl2{i1 t1 i2 t2:Nat}{d1 d2:Fk}(a:Y.P=Tryz.prog)(I:FI bf xf F Q l fr H Q' mb ms T)(hi:i∈dz ops ⟨l⟩)(e:i≠0)(d:aI ops.toList i=some ⟨some t,.buildSlice 93 2 #[(0,.tmp t1),(1,.tmp t2)],ty,ps,af,none⟩)(hκ:aI fks i=some (.sl [d1,d2] t))(c:t<52)
  (f1:aI fks i1=some (.fd d1 t1)) (l1:aI l i1=some true) (f2:aI fks i2=some (.fd d2 t2)) (l2:aI l i2=some true) (kk:NX bf xf F Q (l.set i true) k):gX Y ops i k fr H:=by
 obtain⟨x1,e1,g1⟩:=qH (ops:=ops) I f1 l1;obtain⟨x2,e2,g2⟩:=qH (ops:=ops) I f2 l2;refine ph d rfl (w_bs a rfl (ov e1 (ov e2 rfl)) (ls:=aF bJ [(d1,x1),(d2,x2)]) rfl (by omega) I.sat λb H2 h=>sSl (ys:=[(d1,x1),(d2,x2)]) I hi e hκ c rfl rfl (by simpa using ⟨g1,g2⟩) h kk)
theorem sSl4{i1 t1 i2 t2 i3 t3 i4 t4:Nat}{d1 d2 d3 d4:Fk}(a:Y.P=Tryz.prog)(I:FI bf xf F Q l fr H Q' mb ms T)(hi:i∈dz ops ⟨l⟩)(d:i≠0)(e:aI ops.toList i=some ⟨some t,.buildSlice 93 4 #[(0,.tmp t1),(1,.tmp t2),(2,.tmp t3),(3,.tmp t4)],ty,ps,af,none⟩)(hκ:aI fks i=some (.sl [d1,d2,d3,d4] t))(c:t<52)
  (f1:aI fks i1=some (.fd d1 t1)) (l1:aI l i1=some true) (f2:aI fks i2=some (.fd d2 t2)) (l2:aI l i2=some true) (f3:aI fks i3=some (.fd d3 t3)) (j:aI l i3=some true) (f4:aI fks i4=some (.fd d4 t4)) (f:aI l i4=some true) (kk:NX bf xf F Q (l.set i true) k):gX Y ops i k fr H:=by
 obtain⟨x1,e1,g1⟩:=qH (ops:=ops) I f1 l1;obtain⟨x2,e2,g2⟩:=qH (ops:=ops) I f2 l2;obtain⟨x3,e3,g3⟩:=qH (ops:=ops) I f3 j;obtain⟨x4,e4,g4⟩:=qH (ops:=ops) I f4 f;refine ph e rfl (w_bs a rfl (ov e1 (ov e2 (ov e3 (ov e4 rfl)))) (ls:=aF bJ [(d1,x1),(d2,x2),(d3,x3),(d4,x4)]) rfl (by omega) I.sat λb H2 h=>sSl (ys:=[(d1,x1),(d2,x2),(d3,x3),(d4,x4)]) I hi d hκ c rfl rfl (by simpa using ⟨g1,g2,g3,g4⟩) h kk)
theorem w_bd{ev:Operand->Option Value}{w:Eq}{x:Operand}{a:Xa}{n c:Nat}{K:Value->Prop}{pk:Operand->Operand->Operand->Option (Bool×Value×Value)}(b:Y.P=Tryz.prog)(d:ev (.const (.string w))=some (.string w))(e:ev x=some (.slice a n c))(k:K (.agg ⟨[.string w,.slice a n c]⟩)):qN Y ev pk none (.build 95 #[(0,.const (.string w)),(1,x)]) K:=by
 cases Y
 subst b;show bA (jB ev [(0,.const (.string w)),(1,x)]) _;rw[ov d (ov e rfl)];exact k
theorem sBd{j d:Nat}{kd:Int}{w:Eq}{b:List UInt8}{ds:List Fk}(e:Y.P=Tryz.prog)(I:FI bf xf F Q l fr H Q' mb ms T)(hi:i∈dz ops ⟨l⟩)(y:i≠0)(u:aI ops.toList i=some ⟨some t,.build 95 #[(0,.const (.string w)),(1,.tmp d)],ty,ps,af,none⟩)(hκ:aI fks i=some (.bd kd t))(m:t<52)(v:aI fks j=some (.sl ds d))(s:aI l j=some true)(x:fi kd=some (b,ds))(A:w=bL b)(kk:NX bf xf F Q (l.set i true) k):gX Y ops i k fr H:=by
 obtain⟨f,g0,g1,g2⟩:=I.ok j _ v s;refine one_p u rfl (w_bd e rfl (si g1) ?_);refine kk _ _ ⟨_,_,_,_,I.put hκ (qF hi) rfl y (by omega) (λ_ n=>by cases n) (aH.refl Q') ⟨⟨b,f.ys,f.a,f.c⟩,?_,?_,g2.row,g2.ins⟩ I.sat⟩
 .show _=some (b,f.ys.map Prod.fst);rw[g0,x]
 .rw [eV,V1 ⟨rfl,by rw[I.flen];exact m⟩,A]
theorem sBn{kd:Int}{w:Eq}{a:List UInt8}(b:Y.P=Tryz.prog)(I:FI bf xf F Q l fr H Q' mb ms T)(hi:i∈dz ops ⟨l⟩)(e:i≠0)(j:aI ops.toList i=some ⟨some t,.build 95 #[(0,.const (.string w)),(1,.const (.slice none 0 0))],ty,ps,af,none⟩)(hκ:aI fks i=some (.bd kd t))(c:t<52)(m:fi kd=some (a,[]))(f:w=bL a)(kk:NX bf xf F Q (l.set i true) k):gX Y ops i k fr H:=by
 refine one_p j rfl (w_bd b rfl rfl ?_);refine kk _ _ ⟨_,_,_,_,I.put hκ (qF hi) rfl e (by omega) (λ_ d=>by cases d) (aH.refl Q') ⟨⟨a,[],none,0⟩,m,?_,bB.nil Q' none,by simp⟩ I.sat⟩
 rw[eV,V1 ⟨rfl,by rw[I.flen];exact c⟩,f];rfl
theorem sIn{j s:Nat}{kd:Int}(A:Y.P=Tryz.prog)(I:FI bf xf F Q l fr H Q' mb ms T)(hi:i∈dz ops ⟨l⟩)(y:i≠0)(D:aI ops.toList i=some ⟨none,.insert 57 (.tmp 13) (.const (I64ZZ kd)) (.tmp s),ty,ps,af,none⟩)(hκ:aI fks i=some (.ins kd))(C:aI fks j=some (.bd kd s))(B:aI l j=some true)(c:aI l 0=some true)(kk:NX bf xf F Q (l.set i true) k):gX Y ops i k fr H:=by
 obtain⟨f,g0,g1,g2⟩:=I.ok j _ C B;have hm:evG ops fr [] none (.tmp 13)=some (.map (some mb)):=si (I.ok 0 _ rfl c);have G:evG ops fr [] none (.tmp s)=some (encFm f):=si g1;have E:=I.tl0 c;have h:=I.sat
 rw[E]at h;refine ph D rfl ?_
 cases Y
 subst A;show bA (evG ops fr [] none (.tmp 13)) λa=>bA (some (I64ZZ kd)) λb=>bA (evG ops fr [] none (.tmp s)) λv=>bS Tryz.prog (Instr.mapUpdate 57 a b v) H λ_ H'=>k fr H'
 rw[hm,G];refine h.mp_update mt57 ko3i 7 rfl λH2 h=>kk _ _ ⟨Q',mb,mset kd f ms,mapA I64ZZ encFm mb (mset kd f ms)::F,?_⟩
 refine⟨I.sub,by simp[I.len],I.flen,I.src,λn κ' m e=>?_,λx f' u=>?_,λ_=>rfl,λe=>?_,λn J m e=>?_,h⟩
 .rcases lgetS e with rfl|e
  .rw [hκ]at m;cases m;exact⟨f,by rw[oI,V1 rfl]⟩
  .have:=I.ok n κ' m e
   cases κ' with
   | ins x=>
    obtain⟨f',w⟩:=this;show ∃f,_;rw[oI]
    split
    .exact⟨_,rfl⟩
    .exact⟨_,w⟩
   | mk=>exact this
   | fd d t=>exact this
   | sl d t=>exact this
   | bd d t=>exact this
   | cp t=>exact this
 .rw [oI]at u
  split at u
  .next he=>cases u;subst he;exact⟨g0,g2⟩
  .exact I.im x f' u
 .rw [qG y,c]at e;cases e
 .rw [qG y];exact c
theorem sMk(K:Y.P=Tryz.prog)(I:FI bf xf F Q l fr H Q' mb ms T)(hi:0∈dz ops ⟨l⟩)(D:aI ops.toList 0=some ⟨some 13,.makeMap 57 none,ty,ps,af,none⟩)(kk:NX bf xf F Q (l.set 0 true) k):gX Y ops 0 k fr H:=by
 have A:=qF hi;obtain⟨G,x⟩:=I.tl1 A;have h:=I.sat
 rw[G]at h;refine ph D rfl ?_;refine h.alm I64ZZ encFm λb H2 h=>kk _ _ ⟨Q',b,[],mapA I64ZZ encFm b []::F,?_⟩
 have h:=h.o [1,2,3,4,5,6,7,0] 8;have e0:aI (l.set 0 true) 0=some true:=by
  have:=I.len
  cases l with
  | nil=>simp at this
  | cons a r=>rfl
 refine⟨I.sub,by simp[I.len],by show (dP fr 13 _).length=_;rw[nJ];exact I.flen,λj C J=>?_,λn κ' w c=>?_,λE f y=>(by cases y),λ_=>rfl,λc=>(by rw[e0]at c;cases c),λn L w c=>e0,h⟩
 .show aI (dP fr 13 _) j=_;rw[eV,Vz (λv=>by omega)];exact I.src j C J
 .show gdF _ _ _ (dP fr 13 _) _;have key:∀u,13≠u->∀s,aI (dP fr 13 s) u=aI fr u:=λu t s=>by rw[eV,Vz (λv=>t v.1)]
  rcases lgetS c with rfl|c
  .cases w
   show aI (dP fr 13 _) 13=_;rw[eV,V1 ⟨rfl,by rw[I.flen];decide⟩]
  .have B:n≠0:=λv=>by rw[v,A]at c;cases c
   have m:=I.ok n κ' w c;have e:κ'.slot=99\/13≠κ'.slot:=by
    by_cases h9:κ'.slot=99
    .exact .inl h9
    .exact .inr λv=>(Bt (i:=n) (j:=0) w rfl B h9).1 v.symm
   cases κ' with
   | mk=>exact V0 rfl (e.resolve_left (by decide))
   | fd d u=>
    have t:13≠u:=e.elim (λh=>by rw[show u=99 from h];decide) id
    simp only[gdF]at m ⊢;rw[key u t];exact m
   | sl d u=>
    have t:13≠u:=e.elim (λh=>by rw[show u=99 from h];decide) id
    simp only[gdF]at m ⊢;rw[key u t];exact m
   | bd d u=>
    have t:13≠u:=e.elim (λh=>by rw[show u=99 from h];decide) id
    simp only[gdF]at m ⊢;rw[key u t];exact m
   | ins E=>rw[x]at m;obtain⟨f,y⟩:=m;cases y
   | cp u=>have:=I.c50 n u w c;rw[A]at this;cases this
theorem ins_at(n:_root_.Fin 12):∃j,j<52/\aI fks j=some (.ins (n.val:Int)):=by
 have:∀m:Nat,m<12->∃j,j<52/\aI fks j=some (.ins (m:Int)):=λm hm=>match m,hm with
  | 0,_=>⟨4,by decide,rfl⟩|1,_=>⟨9,by decide,rfl⟩|2,_=>⟨16,by decide,rfl⟩|3,_=>⟨21,by decide,rfl⟩|4,_=>⟨26,by decide,rfl⟩|5,_=>⟨30,by decide,rfl⟩
  | 6,_=>⟨34,by decide,rfl⟩|7,_=>⟨39,by decide,rfl⟩|8,_=>⟨41,by decide,rfl⟩|9,_=>⟨43,by decide,rfl⟩|10,_=>⟨45,by decide,rfl⟩|11,_=>⟨49,by decide,rfl⟩
  | k+12,h=>V0 h (by omega)
 exact this n.val n.isLt
theorem xw{K:KQ}(h:aA H (Q::F))(k:∀Q' mb ms H',aH Q Q'->sg Q' ms->aA H' (mapA I64ZZ encFm mb ms::Q'::F)->K (.map (some mb)) H'):CF 18 #[] H K:=by
 refine cN 18 73300775561 [[(0,sM)]] ?_;refine Mi (o:=1) (by decide) h λN x1 L s1 i1 h=>⟨_,_,_,_,rfl,h.al λb1 _ h=>h.st 0 rfl rfl λB h=>?_⟩
 have h:aA B (cellsA b1 (bJ (fA,x1)) 87::N::F):=h;refine uz (o:=2) (by decide) (h.o [1,0] 2) λQ2 x2 H2 s2 i2 h=>⟨_,_,_,_,rfl,h.al λb2 _ h=>h.st 0 rfl rfl λC h=>?_⟩
 have h:aA C (cellsA b2 (bJ (fN 2,x2)) 87::Q2::cellsA b1 (bJ (fA,x1)) 87::F):=h;refine uz (o:=3) (by decide) (h.o [1,0,2] 3) λD x3 H3 s3 i3 h=>⟨_,_,_,_,rfl,h.al λb3 _ h=>h.st 0 rfl rfl λE h=>?_⟩
 have h:aA E (cellsA b3 (bJ (fN 3,x3)) 87::D::cellsA b2 (bJ (fN 2,x2)) 87::cellsA b1 (bJ (fA,x1)) 87::F):=h;refine uz (o:=4) (by decide) (h.o [1,0,2,3] 4) λG x4 H4 s4 i4 h=>⟨_,_,_,_,rfl,h.al λb4 _ h=>h.st 0 rfl rfl λJ h=>?_⟩
 have h:aA J (cellsA b4 (bJ (fN 4,x4)) 87::G::cellsA b3 (bJ (fN 3,x3)) 87::cellsA b2 (bJ (fN 2,x2)) 87::cellsA b1 (bJ (fA,x1)) 87::F):=h;refine uz (o:=5) (by decide) (h.o [1,0,2,3,4] 5) λM x5 H5 s5 i5 h=>⟨_,_,_,_,rfl,h.al λb5 _ h=>h.st 0 rfl rfl λA h=>?_⟩
 have h:aA A (cellsA b5 (bJ (fN 5,x5)) 87::M::cellsA b4 (bJ (fN 4,x4)) 87::cellsA b3 (bJ (fN 3,x3)) 87::cellsA b2 (bJ (fN 2,x2)) 87::cellsA b1 (bJ (fA,x1)) 87::F):=h;refine uz (o:=6) (by decide) (h.o [1,0,2,3,4,5] 6) λd x6 H6 s6 i6 h=>⟨_,_,_,_,rfl,h.al λb6 _ h=>h.st 0 rfl rfl λy h=>?_⟩
 have h:aA y (cellsA b6 (bJ (fN 6,x6)) 87::d::cellsA b5 (bJ (fN 5,x5)) 87::cellsA b4 (bJ (fN 4,x4)) 87::cellsA b3 (bJ (fN 3,x3)) 87::cellsA b2 (bJ (fN 2,x2)) 87::cellsA b1 (bJ (fA,x1)) 87::F):=h;have h:=h.o [6,5,4,3,2,0,1] 7;obtain⟨bf,x⟩:∃bf:Nat->Nat,bf=fun|1=>b1|2=>b2|3=>b3|4=>b4|5=>b5|_=>b6:=⟨_,rfl⟩
 obtain⟨xf,v⟩:∃xf:Nat->FdX,xf=fun|1=>x1|2=>x2|3=>x3|4=>x4|5=>x5|_=>x6:=⟨_,rfl⟩
 have s2:aH N Q2:=s2;have s3:aH Q2 D:=s3;have s4:aH D G:=s4;have s5:aH G M:=s5;have s6:aH M d:=s6;have b:XsIn d xf:=λj O R=>by
  have:j=1\/j=2\/j=3\/j=4\/j=5\/j=6:=by omega
  rcases this with rfl|rfl|rfl|rfl|rfl|rfl <;> rw[v]
  .exact ((((i1.sub s2).sub s3).sub s4).sub s5).sub s6
  .exact (((i2.sub s3).sub s4).sub s5).sub s6
  .exact ((i3.sub s4).sub s5).sub s6
  .exact (i4.sub s5).sub s6
  .exact i5.sub s6
  .exact i6
 have h:aA y (cellsA (bf 1) (bJ (fA,xf 1)) 87::cellsA (bf 2) (bJ (fN 2,xf 2)) 87::cellsA (bf 3) (bJ (fN 3,xf 3)) 87::cellsA (bf 4) (bJ (fN 4,xf 4)) 87::cellsA (bf 5) (bJ (fN 5,xf 5)) 87::cellsA (bf 6) (bJ (fN 6,xf 6)) 87::d::F):=by rw[x,v];exact h
 have Z:aH Q d:=((((s1.trans s2).trans s3).trans s4).trans s5).trans s6;intro Jn hJ;refine⟨FIx bf xf F d,⟨d,0,[],F,aH.refl d,rfl,rfl,λj O R=>?_,λi κ hκ m=>?_,λk f u=>(by cases u),λm=>(by cases m),λ_=>⟨rfl,rfl⟩,λi t hκ m=>?_,h⟩,?_⟩
 .have:j=1\/j=2\/j=3\/j=4\/j=5\/j=6:=by omega
  rcases this with rfl|rfl|rfl|rfl|rfl|rfl <;> rw[x] <;> rfl
 .have:=lI hκ;rw[dq,List.getElem?_replicate]at m
  split at m <;> cases m
 .rw [dq,List.getElem?_replicate]at m
  split at m <;> cases m
 .rintro l fr H' ⟨Q',mb,ms,T,I⟩;refine⟨λV=>?_,λi hi=>?_⟩
  .have c:=rdy_all (by rw[I.len];rfl) (by kernel_rfl) V;have U:aI fr 0=some (.p (.map (some mb))):=I.ok 51 (.cp 0) rfl (c 51 (by decide));have e:ge (kI fr) 0=some (.map (some mb)):=by
    unfold ge kI;rw[uT,U];rfl
   have P:=I.tl0 (c 0 (by decide));have h:=I.sat
   rw[P]at h;show iO [(0,sM)] Jn (kI fr) H';unfold iO;simp only[l9,e];refine hJ _ _ (k Q' mb ms H' (Z.trans I.sub) ⟨λk f u=>(I.im k f u).1,λkd W=>?_,λk f u=>(I.im k f u).2⟩ (h.o [7,6] 8))
   cases u:fi kd with
   | none=>rfl
   | some p=>
    obtain⟨n,rfl⟩:=qE (w:=p.1) (fs:=p.2) u;obtain⟨j,Y,S⟩:=ins_at n;obtain⟨f,hm⟩:=I.ok j _ S (c j Y);rw[W]at hm;cases hm
  .have a:i<52:=Wh.1 (Ws.1 hi).1;have kk:NX bf xf F d (l.set i true) (FIx bf xf F d (l.set i true)):=λ_ _ h=>h
   match i,hi,a,kk with
   | 0,hi,a,kk=>exact sMk rfl I hi rfl kk
   | 1,hi,a,kk=>exact sLd (j:=2) rfl b I hi (by decide) (by decide) rfl rfl (by decide) kk
   | 2,hi,a,kk=>exact sSl1 (i1:=1) rfl I hi (by decide) rfl rfl (by decide) rfl (cz hi rfl 1 rfl) kk
   | 3,hi,a,kk=>exact sBd (j:=2) rfl I hi (by decide) rfl rfl (by decide) rfl (cz hi rfl 2 rfl) rfl rfl kk
   | 4,hi,a,kk=>exact sIn (j:=3) rfl I hi (by decide) rfl rfl rfl (cz hi rfl 3 rfl) (cz hi rfl 0 rfl) kk
   | 5,hi,a,kk=>exact sLd (j:=1) rfl b I hi (by decide) (by decide) rfl rfl (by decide) kk
   | 6,hi,a,kk=>exact sLd (j:=4) rfl b I hi (by decide) (by decide) rfl rfl (by decide) kk
   | 7,hi,a,kk=>exact sSl2 (i1:=5) (i2:=6) rfl I hi (by decide) rfl rfl (by decide) rfl (cz hi rfl 5 rfl) rfl (cz hi rfl 6 rfl) kk
   | 8,hi,a,kk=>exact sBd (j:=7) rfl I hi (by decide) rfl rfl (by decide) rfl (cz hi rfl 7 rfl) rfl rfl kk
   | 9,hi,a,kk=>exact sIn (j:=8) rfl I hi (by decide) rfl rfl rfl (cz hi rfl 8 rfl) (cz hi rfl 0 rfl) kk
   | 10,hi,a,kk=>exact sLd (j:=1) rfl b I hi (by decide) (by decide) rfl rfl (by decide) kk
   | 11,hi,a,kk=>exact sLd (j:=3) rfl b I hi (by decide) (by decide) rfl rfl (by decide) kk
   | 12,hi,a,kk=>exact sLd (j:=5) rfl b I hi (by decide) (by decide) rfl rfl (by decide) kk
   | 13,hi,a,kk=>exact ph rfl rfl (UQ (I.sat.o [6,0,1,2,3,4,5] 7) λL h=>⟨_,_,_,_,rfl,sCall I hi (by decide) rfl (by decide) trivial h kk⟩)
   | 14,hi,a,kk=>exact sSl4 (i1:=10) (i2:=11) (i3:=12) (i4:=13) rfl I hi (by decide) rfl rfl (by decide) rfl (cz hi rfl 10 rfl) rfl (cz hi rfl 11 rfl) rfl (cz hi rfl 12 rfl) rfl (cz hi rfl 13 rfl) kk
   | 15,hi,a,kk=>exact sBd (j:=14) rfl I hi (by decide) rfl rfl (by decide) rfl (cz hi rfl 14 rfl) rfl rfl kk
   | 16,hi,a,kk=>exact sIn (j:=15) rfl I hi (by decide) rfl rfl rfl (cz hi rfl 15 rfl) (cz hi rfl 0 rfl) kk
   | 17,hi,a,kk=>exact sLd (j:=1) rfl b I hi (by decide) (by decide) rfl rfl (by decide) kk
   | 18,hi,a,kk=>exact sLd (j:=3) rfl b I hi (by decide) (by decide) rfl rfl (by decide) kk
   | 19,hi,a,kk=>exact sSl2 (i1:=17) (i2:=18) rfl I hi (by decide) rfl rfl (by decide) rfl (cz hi rfl 17 rfl) rfl (cz hi rfl 18 rfl) kk
   | 20,hi,a,kk=>exact sBd (j:=19) rfl I hi (by decide) rfl rfl (by decide) rfl (cz hi rfl 19 rfl) rfl rfl kk
   | 21,hi,a,kk=>exact sIn (j:=20) rfl I hi (by decide) rfl rfl rfl (cz hi rfl 20 rfl) (cz hi rfl 0 rfl) kk
   | 22,hi,a,kk=>exact sLd (j:=6) rfl b I hi (by decide) (by decide) rfl rfl (by decide) kk
   | 23,hi,a,kk=>exact sLd (j:=3) rfl b I hi (by decide) (by decide) rfl rfl (by decide) kk
   | 24,hi,a,kk=>exact sSl2 (i1:=22) (i2:=23) rfl I hi (by decide) rfl rfl (by decide) rfl (cz hi rfl 22 rfl) rfl (cz hi rfl 23 rfl) kk
   | 25,hi,a,kk=>exact sBd (j:=24) rfl I hi (by decide) rfl rfl (by decide) rfl (cz hi rfl 24 rfl) rfl rfl kk
   | 26,hi,a,kk=>exact sIn (j:=25) rfl I hi (by decide) rfl rfl rfl (cz hi rfl 25 rfl) (cz hi rfl 0 rfl) kk
   | 27,hi,a,kk=>exact sLd (j:=6) rfl b I hi (by decide) (by decide) rfl rfl (by decide) kk
   | 28,hi,a,kk=>exact sSl1 (i1:=27) rfl I hi (by decide) rfl rfl (by decide) rfl (cz hi rfl 27 rfl) kk
   | 29,hi,a,kk=>exact sBd (j:=28) rfl I hi (by decide) rfl rfl (by decide) rfl (cz hi rfl 28 rfl) rfl rfl kk
   | 30,hi,a,kk=>exact sIn (j:=29) rfl I hi (by decide) rfl rfl rfl (cz hi rfl 29 rfl) (cz hi rfl 0 rfl) kk
   | 31,hi,a,kk=>exact sLd (j:=6) rfl b I hi (by decide) (by decide) rfl rfl (by decide) kk
   | 32,hi,a,kk=>exact sSl1 (i1:=31) rfl I hi (by decide) rfl rfl (by decide) rfl (cz hi rfl 31 rfl) kk
   | 33,hi,a,kk=>exact sBd (j:=32) rfl I hi (by decide) rfl rfl (by decide) rfl (cz hi rfl 32 rfl) rfl rfl kk
   | 34,hi,a,kk=>exact sIn (j:=33) rfl I hi (by decide) rfl rfl rfl (cz hi rfl 33 rfl) (cz hi rfl 0 rfl) kk
   | 35,hi,a,kk=>exact sLd (j:=1) rfl b I hi (by decide) (by decide) rfl rfl (by decide) kk
   | 36,hi,a,kk=>exact ph rfl rfl (US (I.sat.o [6,0,1,2,3,4,5] 7) λL h=>⟨_,_,_,_,rfl,sCall I hi (by decide) rfl (by decide) trivial h kk⟩)
   | 37,hi,a,kk=>exact sSl2 (i1:=35) (i2:=36) rfl I hi (by decide) rfl rfl (by decide) rfl (cz hi rfl 35 rfl) rfl (cz hi rfl 36 rfl) kk
   | 38,hi,a,kk=>exact sBd (j:=37) rfl I hi (by decide) rfl rfl (by decide) rfl (cz hi rfl 37 rfl) rfl rfl kk
   | 39,hi,a,kk=>exact sIn (j:=38) rfl I hi (by decide) rfl rfl rfl (cz hi rfl 38 rfl) (cz hi rfl 0 rfl) kk
   | 40,hi,a,kk=>exact sBn rfl I hi (by decide) rfl rfl (by decide) rfl rfl kk
   | 41,hi,a,kk=>exact sIn (j:=40) rfl I hi (by decide) rfl rfl rfl (cz hi rfl 40 rfl) (cz hi rfl 0 rfl) kk
   | 42,hi,a,kk=>exact sBn rfl I hi (by decide) rfl rfl (by decide) rfl rfl kk
   | 43,hi,a,kk=>exact sIn (j:=42) rfl I hi (by decide) rfl rfl rfl (cz hi rfl 42 rfl) (cz hi rfl 0 rfl) kk
   | 44,hi,a,kk=>exact sBn rfl I hi (by decide) rfl rfl (by decide) rfl rfl kk
   | 45,hi,a,kk=>exact sIn (j:=44) rfl I hi (by decide) rfl rfl rfl (cz hi rfl 44 rfl) (cz hi rfl 0 rfl) kk
   | 46,hi,a,kk=>exact ph rfl rfl (UP (I.sat.o [6,0,1,2,3,4,5] 7) λL h=>⟨_,_,_,_,rfl,sCall I hi (by decide) rfl (by decide) trivial h kk⟩)
   | 47,hi,a,kk=>exact sSl1 (i1:=46) rfl I hi (by decide) rfl rfl (by decide) rfl (cz hi rfl 46 rfl) kk
   | 48,hi,a,kk=>exact sBd (j:=47) rfl I hi (by decide) rfl rfl (by decide) rfl (cz hi rfl 47 rfl) rfl rfl kk
   | 49,hi,a,kk=>exact sIn (j:=48) rfl I hi (by decide) rfl rfl rfl (cz hi rfl 48 rfl) (cz hi rfl 0 rfl) kk
   | 50,hi,a,kk=>exact sCp (s:=13) rfl I hi (.inl rfl) (I.ok 0 _ rfl (cz hi rfl 0 rfl)) (cz hi rfl 0 rfl) rfl (by decide) (by decide) kk
   | 51,hi,a,kk=>exact sCp (s:=51) rfl I hi (.inr rfl) (I.ok 50 _ rfl (cz hi rfl 50 rfl)) (cz hi rfl 0 rfl) rfl (by decide) (by decide) kk
   | n+52,hi,a,kk=>exact V0 a (by omega)
end
section
variable {F L:List aD}{H:aC}{K:KQ}{Q:aD}{e:Et}{ex:EtX}
theorem Bu(g:Gl Q)(c:EtW e)(a:EtK Q e ex)(h:aA H (Q::F))(k:∀Q' H',aH Q Q'->aA H' (Q'::F)->K (.tuple #[.string (bL ((cO e).getD [])),.bool (cO e).isSome]) H') :
  CF 9 #[.agg ⟨aY e ex⟩] H K:=by
 refine cM 9 28 (h.al λb _ h=>⟨_,_,_,_,_,_,_,_,_,_,_,_,_,_,_,h.q 0,?_⟩)
 refine xw (h.o [1,0] 2) λQ' mb ms d hs hm h=>⟨_,rfl,h.q 2,?_⟩
 exact Mh (g.sub hs) hm c (a.sub hs) h λQ2 H2 s2 h=>⟨_,_,rfl,k Q2 H2 (hs.trans s2) (h.o [1] 3)⟩
end
def LineR(l:List UInt8)(r:Option Et):Prop:=(∃e w fs,r=some e/\pg e l w fs/\EtW e)\/(r=none/\uw l)
theorem Bv{c:UInt8}:∀{l:List UInt8},(cX c l).length<=l.length+1
 | []=>by simp[cX]
 | b::r=>by
  have a:=Bv (c:=c) (l:=r);unfold cX
  split
  .simp;omega
  .split
   .simp
   .next h t e=>rw[e]at a;simp at a ⊢;omega
abbrev et0:Et:={ kind:=0 }
theorem etK0(Q:aD)(e:Et)(a:e.labs=[])(b:e.bs=[]):EtK Q e {}:=⟨by rw[a];exact bB.nil Q none,by rw[b];exact bB.nil Q none⟩
section
variable {F L:List aD}{H:aC}{K:KQ}{Q:aD}{e:Et}{ex:EtX}{mb:Nat}{ms:List (Int×Fm)}
theorem beqS(a b:Eq):(a.toList == b.toList)=decide (a=b):=by
 rw[Wd,beq_iff_eq,V5,ByteArray.toList_eq,ByteArray.toList_eq];exact⟨λh=>ByteArray.ext (Array.toList_inj.mp h),λh=>by rw[h]⟩
theorem bL_inj{a b:List UInt8}(h:bL a=bL b):a=b:=by
 have:=congrArg aR h
 rwa[jc,jc]at this
theorem Bw{l:List UInt8}{r:Option Et}(g:Gl Q)(hm:sg Q ms)(hl:l.length<=900000000)(L:LineR l r)(h:aA H (mapA I64ZZ encFm mb ms::Q::F))
  (k:∀Q' ex H',aH Q Q'->EtK Q' (r.getD et0) ex->aA H' (mapA I64ZZ encFm mb ms::Q'::F)->K (.tuple #[.agg ⟨aY (r.getD et0) ex⟩,.bool r.isSome]) H') :
  CF 24 #[.map (some mb),.string (bL l)] H K:=by
 have h4:=h.mp_nodup 0 rfl;have R:=LE 32 l;obtain⟨ws,m⟩:∃ws,cX 32 l=ws:=⟨_,rfl⟩;rw[m]at R;have h0:0<ws.length:=WT.2 R;refine cN 24 0x1121561239951213991215612399251b4cc [[(41,sI)],[]] (h.al λb0 _ h=>?_)
 refine LQ (s:=bL l) (by show l.toArray.size<=_;simp;omega) g (h.o [2,0,1] 3) λsb H1 h=>?_
 rw[jc,m]at h ⊢;refine⟨_,_,_,rfl,h.rg_new mt57 3 rfl λI H2 h=>⟨I,rfl,?_⟩⟩
 refine⟨λH'=>∃dn,(∀p∈dn,¬(p.2.w=ws[0]/\ws.length=1+p.2.ys.length))/\aA H' (cellsA sb (ws.map λx=>.string (bL x)) 9::Q::cellsA b0 (aY et0 {}) 40::gy I64ZZ encFm I mb ms dn::F),λH'=>ms.length-pN H' I,⟨[],λp y=>V0 y (by simp),h⟩,?_⟩
 clear h
 rintro H2 ⟨dn,T,h⟩;have l4:=h.rg_count 3 rfl;refine h.rg_next 3 rfl (λJ=>.inl ⟨rfl,(λn=>by cases n),λ_=>?_⟩) λp J r6 H3 h=>.inr ⟨_,_,rfl,(λ_=>?_),λn=>by cases n⟩
 .have h:=h.rg_map 3 rfl;have j3:r=none:=by
   rcases L with ⟨e,w,fs,rfl,y,hv⟩|⟨L,-⟩
   .exfalso
    cases u:aK e.kind ms with
    | none=>have:=hm.none_ _ u;rw[y.form]at this;cases this
    | some f=>
     have n:=hm.form _ _ u;rw[y.form]at n;have N:=(J.mem_iff).2 (fL u);have d:=y.cut hv.by_;rw[m]at d;simp only[Option.some.injEq,Prod.mk.injEq]at n;refine T _ N ⟨?_,?_⟩
     .simp only[d,fk,List.getElem_cons_zero];exact n.1.symm
     .rw [d,fk,n.2];simp;omega
   .exact L
  subst j3;refine h.st 2 rfl rfl λH4 h=>⟨_,_,_,_,_,_,_,_,_,_,_,_,_,_,_,h.q 2,?_⟩
  exact k Q {} _ (aH.refl Q) (etK0 Q _ rfl rfl) (h.o [3,1] 4)
 .have v:=h.rg_count 3 rfl;rw[V6]at v;simp only[WO]at v;have u:=nN h4 J;have n:=hm.form _ _ u;have hi:=hm.ins _ _ u;have l5:p.2.ys.length<=4:=by have:=(ux n).1;simpa using this
  have W:=aA.rg_entry (P:=Tryz.prog) h 3 rfl;have r0:ws.length<=l.length+1:=by rw[<-m];exact Bv
  refine⟨_,_,_,_,_,W,h.al λb1 _ h=>h.st 0 rfl rfl λH4 h=>?_⟩
  have h:aA H4 (cellsA b1 [.string (bL p.2.w),.slice p.2.a p.2.ys.length p.2.c] 95::cellsA sb (ws.map λx=>.string (bL x)) 9::Q::cellsA b0 (aY et0 {}) 40::gy I64ZZ encFm I mb ms (dn++[p])::F):=h
  have S:i64.wrap (1+(p.2.ys.length:Int))=((1+p.2.ys.length:Nat):Int):=by grind [aJ]
  have B:=h.ce_rd 1 rfl;refine⟨_,h.rd 0 rfl _,⟨by omega,by omega⟩,_,_,rfl,_,(B.at h0).2,_,_,_,λ_=>h.r 0,λt=>?_,λt=>?_⟩
  .have l3:=h.rg_count 4 rfl;refine⟨⟨dn++[p],λq Z=>?_,h.o [1,2,3,4] 5⟩,by grind⟩
   rcases VJ.1 Z with Z|Z
   .exact T q Z
   .obtain rfl:=VH.1 Z;rintro⟨hw,hn⟩;rw[S,hw,<-hn]at t;simp at t
  .have t:p.2.w=ws[0]/\ws.length=1+p.2.ys.length:=by
    rw[S,beqS]at t;simp only[VN,W8,V5]at t;exact⟨bL_inj t.1,by have:=t.2;omega⟩
   obtain⟨fs,E⟩:∃fs,p.2.ys.map Prod.fst=fs:=⟨_,rfl⟩;have j2:fs.length=p.2.ys.length:=by rw[<-E];simp
   rw[E]at n
   rcases L with ⟨e,w,b,rfl,y,hv⟩|⟨-,l1⟩
   case inr=>
    refine V0 ⟨?_,?_⟩ (l1 _ _ _ n)
    .rw [m,t.1,List.head?_eq_getElem?,List.getElem?_eq_getElem h0]
    .rw [m,t.2,j2]
   have d:=y.cut hv.by_;rw[m]at d;have h1:p.2.w=w:=by rw[t.1];simp[d,fk]
   rw[h1]at n;have hk:p.1=e.kind:=form_inj n y.form;have h9:b=fs:=by
    have:=y.form;rw[<-hk,n]at this;simp only[Option.some.injEq,Prod.mk.injEq]at this;exact this.2.symm
   subst h9;have U:∀j,∀hj:j<b.length,ws[1+j]?=some (wrF b[j] e):=λj hj=>by
    rw[d,fk,Nat.add_comm,List.getElem?_cons_succ,List.getElem?_map,List.getElem?_eq_getElem hj];rfl
   refine h.al λb2 _ h=>h.st 0 rfl rfl λH5 h=>⟨_,_,_,h.r 1,?_⟩
   rw[hk]at h;have h:aA H5 (cellsA b2 (aY { kind:=e.kind } {}) 40::cellsA b1 [.string (bL p.2.w),.slice p.2.a p.2.ys.length p.2.c] 95::cellsA sb (ws.map λx=>.string (bL x)) 9::Q::cellsA b0 (aY et0 {}) 40::gy I64ZZ encFm I mb ms (dn++[p])::F):=h
   refine⟨λi H'=>∃(j:Nat) (Q':aD) (bx:EtX),i=j/\j<=p.2.ys.length/\aH Q Q'/\EtK Q' (iu e (b.take j)) bx/\
     aA H' (cellsA b2 (aY (iu e (b.take j)) bx) 40::cellsA b1 [.string (bL p.2.w),.slice p.2.a p.2.ys.length p.2.c] 95::cellsA sb (ws.map λx=>.string (bL x)) 9::Q'::cellsA b0 (aY et0 {}) 40::gy I64ZZ encFm I mb ms (dn++[p])::F),
    λi _=>p.2.ys.length-i.toNat,⟨0,Q,{},rfl,by omega,aH.refl Q,etK0 Q _ rfl rfl,h⟩,?_⟩
   clear h
   rintro i H6 ⟨j,Q',bx,rfl,hj,hs,G,h⟩;refine⟨λhx=>?_,λhx=>?_⟩
   .have C:j<p.2.ys.length:=by grind
    have M:j<b.length:=by omega
    have h8:i64.wrap ((j:Int)+1)=((j+1:Nat):Int):=by grind [aJ]
    have j1:i64.wrap (1+(j:Int))=((1+j:Nat):Int):=by grind [aJ]
    have V:=(hi.row.sub hs).at h 3 rfl;have B:=h.ce_rd 2 rfl;have hd:b[j]=p.2.ys[j].1:=by subst E;simp
    have l0:=(hi.ins _ (V7 C)).sub hs;have l2:rdF p.2.ys[j].1 e=true:=by rw[<-hd];exact y.rd _ (V7 M)
    have Y:iu e (b.take (j+1))=cpF p.2.ys[j].1 e (iu e (b.take j)):=by unfold iu;rw[Me _ _ _ _ M,hd]
    refine⟨⟨by omega,by omega⟩,_,_,V.some xt (by decide) C,_,_,_,_,V.els xt C,h.al λb5 _ h=>h.st 0 rfl rfl λH8 h=>?_⟩
    have h:aA H8 (cellsA b5 (bJ p.2.ys[j]) 87::cellsA b2 (aY (iu e (b.take j)) bx) 40::cellsA b1 [.string (bL p.2.w),.slice p.2.a p.2.ys.length p.2.c] 95::cellsA sb (ws.map λx=>.string (bL x)) 9::Q'::cellsA b0 (aY et0 {}) 40::gy I64ZZ encFm I mb ms (dn++[p])::F):=h
    have B:=h.ce_rd 3 rfl;have D:1+j<ws.length:=by omega
    have h5:ws[1+j]=wrF p.2.ys[j].1 e:=by
     have:=U j M;rw[List.getElem?_eq_getElem D,hd]at this;exact Option.some.inj this
    have A:=(B.at D).2;rw[h5]at A;refine⟨fv (rdN p.2.ys[j].1) (rdC p.2.ys[j].1 p.2.ys[j].2),h.rd 0 rfl _,⟨by omega,by omega⟩,_,_,rfl,_,by rw[j1];exact A,LZ _,?_⟩;refine Mb (g.sub hs) l0 hv G (h.o [1,4,0,2,3,5,6] 7) (λL Q2 h3 h6 h2 O h=>⟨_,rfl,λt=>V0 t (by simp),λ_=>?_⟩) λL h6 h=>V0 l2 (by rw[L];simp)
    refine⟨⟨j+1,Q2,h3,h8,C,hs.trans h2,by rw[Y];exact O,?_⟩,by grind⟩;rw[Y];exact h.o [0,3,4,1,5,6] 7
   .have l6:j=p.2.ys.length:=by grind
    have h7:b.take j=b:=VM (by omega);rw[h7,y.back]at G h;refine⟨_,_,_,_,_,_,_,_,_,_,_,_,_,_,_,h.q 0,h.st 4 rfl rfl λH9 h=>⟨_,_,_,_,_,_,_,_,_,_,_,_,_,_,_,h.q 4,?_⟩⟩
    exact k Q' bx _ hs G ((h.rg_map 5 rfl).o [5,3] 6)
end
def rowO(B:Nat)(a:Xa)(n c:Nat)(xs:Xb):aD:=λh=>xs.length=n/\((a=none/\n=0/\c=0/\h=oG)\/
 ∃g cur fz,a=some ⟨g,0,none⟩/\B<=g/\fz.2<=n/\n<=c/\c<=maxLen/\cur.size=c/\cur.toList.take n=xs/\pt g (.cells cur 5 fz) h)
section
variable {H:aC}{F:aD}{a:Xa}{n c B m:Nat}{xs news:Xb}
theorem Mj(h:aO H F):aO H (rowO B none 0 0 []*F):=by
 have:aO H (emp*F):=by rw[nL];exact h
 exact this.frame λp a=>⟨rfl,.inl ⟨rfl,rfl,rfl,a⟩⟩
theorem sj(h:aO H (rowO B a n c xs*F)):xs.length=n/\((a=none/\n=0/\c=0/\aO H F)\/
  ∃g b d,a=some ⟨g,0,none⟩/\B<=g/\d.2<=n/\n<=c/\c<=maxLen/\b.size=c/\b.toList.take n=xs/\aO H (pt g (.cells b 5 d)*F)):=by
 obtain⟨g,f,p,q,hd,rfl,⟨s,e⟩,j⟩:=h;refine⟨s,?_⟩
 rcases e with ⟨t,k,m,rfl⟩|⟨g,b,d,e1,e2,e3,e4,e5,e6,e7,e⟩
 .refine .inl ⟨t,k,m,q,λi o hi=>f i o ?_,j⟩
  exact hi
 .exact .inr ⟨g,b,d,e1,e2,e3,e4,e5,e6,e7,_,f,p,q,hd,rfl,e,j⟩
theorem aO.fresh{H':aC}{g:Nat}{o:Obj}(h:aO H F)(e:cV H H')(j:H'[g]?=some o)(k:H.size<=g):aO H' (pt g o*F):=by
 obtain⟨p,d,f⟩:=h;have c:∀i b,p i=some b->i<H.size:=λi b hi=>(Array.getElem?_eq_some_iff.1 (d i b hi)).1
 refine⟨dL (λi=>if i=g then some o else none) p,λi o1 a=>?_,_,p,λi=>?_,rfl,rfl,f⟩
 .simp only[dL]at a
  by_cases hi:i=g
  .subst hi;rw[V1 rfl]at a;rw[j,<-a]
  .rw [Vz hi]at a;have:=d i o1 a;rw[e i (c i o1 a),this]
 .by_cases hi:i=g
  .subst hi;right
   cases hp:p i with
   | none=>rfl
   | some b=>have:=c i b hp;omega
  .left;rw[Vz hi]
theorem Mk{op:Sem Value}{P:Program}{K:KQ}(h:aO H (rowO B a n c xs*F))(hm:news.length=m)(hB:B<=H.size)(hx:n+m<=maxLen)
  (V:∀w:World,w.heap=H->a=none->∃O y,op.run P w=.ok O y/\y.ownsRowF H.size 5 1 O m news/\w.grownBy y none)
  (r1:∀(w:World) g d s,w.heap=H->a=some ⟨g,0,none⟩->H[g]?=some (.cells d 5 s)->n+m<=c->s.2<=n->d.size=c->op.run P w=.ok (.slice a (n+m) c) (w.setRow g (d.toList.take n++news++d.toList.drop (n+m)).toArray))
  (r2:∀(w:World) g,w.heap=H->a=some ⟨g,0,none⟩->c<n+m->(∀(j:Nat) u,xs[j]?=some u->w.cell? ((⟨g,0,none⟩:Addr).add j)=some u)->
   op.run P w=.ok (.slice (some ⟨w.heap.size,0,none⟩) (n+m) (grownCap w (n+m) c 5)) (w.drew.alloc (.cells (xs.toArray++news.toArray++Builtin.zeroCells #[.int .u8 0] (grownCap w (n+m) c 5-(n+m))) 5)))
  (k:∀Q S H',aO H' (rowO B Q (n+m) S (xs++news)*F)->K (.slice Q (n+m) S) H'):bS P op H K:=by
 refine .mk λw hw=>?_
 subst hw;obtain⟨v,Z⟩:=sj h
 rcases Z with ⟨rfl,rfl,rfl,I⟩|⟨g,d,s,rfl,e2,e3,e4,e5,e6,e7,I⟩
 all_goals clear h;have h:=I;clear I
 .obtain⟨O,y,x,C,e⟩:=V w rfl rfl;obtain rfl:xs=[]:=Wi v
  rcases C.2 with ⟨rfl,W⟩|⟨g,cap,d,s,rfl,L,E,h0,G,J,h1,t⟩
  .have:news=[]:=Wi (by omega);subst this;have N:m=0:=W;subst N;exact⟨_,_,x,⟨e.os,e.tape,e.output⟩,k none 0 _ (Mj (h.grow λb hb=>e.block b hb (by simp)))⟩
  .refine⟨_,_,x,⟨e.os,e.tape,e.output⟩,?_⟩;have R:=k (some ⟨g,0,none⟩) cap y.heap;rw[VB]at R;refine R ((aO.fresh h (λb hb=>e.block b hb (by simp)) E L).frame λp D=>⟨by simpa using hm,.inr ⟨g,d,s,rfl,by omega,by omega,G,J,by omega,by simpa using t,D⟩⟩)
 .by_cases hroom:n+m<=c
  .have e:=h.get;have x:=r1 w g d s rfl rfl e hroom e3 e6;refine⟨_,_,x,⟨rfl,rfl,rfl⟩,k _ _ _ ?_⟩;have T:=h.upd (setRow_heap w g d (d.toList.take n++news++d.toList.drop (n+m)).toArray 5 s e) λi hi=>setRow_other w g i _ hi
   refine T.frame λp D=>⟨by simp[v,hm],.inr ⟨g,_,s,rfl,e2,by omega,hroom,e5,?_,?_,D⟩⟩
   .simp;omega
   .rw [e7,List.take_left' (by simp[v,hm])]
  .have x:=r2 w g rfl rfl (by omega) λj u Y=>?_
   .refine⟨_,_,x,⟨rfl,rfl,rfl⟩,k _ _ _ ?_⟩;have U:=(h.drop').push (.cells (xs.toArray++news.toArray++Builtin.zeroCells #[.int .u8 0] (grownCap w (n+m) c 5-(n+m))) 5);have M:=grownCap_ge w (n+m) c 5;have A:grownCap w (n+m) c 5<=maxLen:=grownCap_le_maxLen w (n+m) c 5 hx;refine U.frame λp D=>⟨by simp[v,hm],.inr ⟨w.heap.size,_,(0,0),rfl,hB,VE _,M,A,?_,?_,D⟩⟩
    .rw [Array.size_append,Array.size_append,size_zeroCells];simp[v,hm];omega
    .rw [Array.toList_append,Array.toList_append,List.take_left' (by simp[v,hm])]
   .have e:=h.get;have:d.toList[j]?=some u:=by
     have f:=Y;rw[<-e7,List.getElem?_take]at f
     split at f
     .exact f
     .cases f
    rw[fu,cell?_cellAt];simp only[VB];unfold aM;rw[e];simpa using this
end
def bldA(B b:Nat)(l:List UInt8):aD:=exS λy:Xa×Xa×Nat=>star [pur (B<=b/\(y.1=none\/y.1=some ⟨b,0,none⟩)),cellsA b [.pointer y.1,.slice y.2.1 l.length y.2.2] 61,rowO B y.2.1 l.length y.2.2 (Lib.byteCells l)]
section
variable {H:aC}{F:List aD}{b B:Nat}{l:List UInt8}
theorem qI:aA H (bldA B b l::F)↔∃p a c,B<=b/\(p=none\/p=some ⟨b,0,none⟩)/\aA H (cellsA b [.pointer p,.slice a l.length c] 61::rowO B a l.length c (Lib.byteCells l)::F):=by
 unfold bldA;rw[cy]
 constructor
 .rintro⟨y,h⟩;obtain⟨d,h⟩:=nM.1 (aA.open h);exact⟨y.1,y.2.1,y.2.2,d.1,d.2,h⟩
 .rintro⟨p,a,c,h1,h2,h⟩;exact⟨⟨p,a,c⟩,aA.shut [_,_,_] (h.pur ⟨h1,h2⟩)⟩
theorem Ml(a:B<=b)(h:aA H (cellsA b [.pointer none,.slice none 0 0] 61::F)):aA H (bldA B b []::F):=by
 have c:aA H (rowO B none 0 0 []::cellsA b [.pointer none,.slice none 0 0] 61::F):=Mj (F:=star _) h;exact qI.2 ⟨none,none,0,a,.inl rfl,c.o [1,0] 2⟩
theorem uA{b e:Nat}{cs:Xb}(h:aA H (cellsA b cs e::F)):b<H.size:=(Array.getElem?_eq_some_iff.1 (aO.get (F:=star F) h)).1
theorem UU(s:List UInt8):Lib.strCells (bL s)=Lib.byteCells s:=rfl
theorem Mm(l s:List UInt8):Lib.byteCells (l++s)=Lib.byteCells l++Lib.byteCells s:=by simp[Lib.byteCells]
end
section
variable {F L:List aD}{H:aC}{K:KQ}{b B n c:Nat}{a:Xa}{xs:Xb}{l:List UInt8}
theorem Mn:∃i,Tryz.prog.info? 5=some i/\i.zero=some (.int .u8 0)/\i.size=1/\i.bytes=1:=info_parts (by kernel_rfl)
theorem UV{ty:Nat}{s:Eq}(h:aA H (rowO B a n c xs::F))(M:B<=H.size)(Q:n+s.size<=100000000000)(k:∀t y H',aA H' (rowO B t (n+s.size) y (xs++Lib.strCells s)::F)->K (.slice t (n+s.size) y) H') :
  bS Tryz.prog (Builtin.append_ #[38,9] ty #[.slice a n c,.string s]) H K:=by
 obtain⟨i,hi,v,j,x⟩:=Mn;have D:=Lib.strCells_length s;have O:n+s.size<=maxLen:=by simp only[maxLen];omega
 refine Mk (F:=star F) h D M O (λw f b=>?_) (λw g d A f b I E L u=>?_) (λw g f b u G=>?_) k
 .subst f;obtain⟨m,C⟩:=sj (F:=star F) h;have:n=0/\c=0:=by
   rcases C with ⟨-,e1,e2,-⟩|⟨g,d,A,e,-⟩
   .exact⟨e1,e2⟩
   .rw [b]at e;cases e
  obtain⟨rfl,rfl⟩:=this;subst b;obtain⟨N,J,r1,r2,r3,-⟩:=Lib.run_append_own_stringF (P:=Tryz.prog) w w.heap.size 38 9 ty 5 i Tryz.underlying38 Tryz.underlying9 hi v j x (.slice none 0 0) 0 [] ⟨rfl,.inl ⟨rfl,rfl⟩⟩ s (by omega) (by omega) (VD _);rw[VB,VZ]at r2;exact⟨N,J,r1,r2,r3⟩
 .subst f;subst b;have:=Lib.run_append_room_stringF (P:=Tryz.prog) w 38 9 ty 5 i Tryz.underlying38 Tryz.underlying9 hi j g n c d A I L s E (by omega);exact this
 .subst f;subst b;obtain⟨m,-⟩:=sj (F:=star F) h;exact Lib.run_append_grow_string (P:=Tryz.prog) w 38 9 ty 5 i (.int .u8 0) Tryz.underlying38 Tryz.underlying9 hi v ⟨g,0,none⟩ n c xs (by rw[j];omega) G s u (by omega) (by rw[x];exact growslice_fits (by omega) (by omega))
theorem UW{ty d:Nat}{x:Int}{e:Nat}(h:aA H (cellsA d [U8 x] e::rowO B a n c xs::F))(T:B<=H.size)(W:n+1<=100000000000)(k:∀E L H',aA H' (rowO B E (n+1) L (xs++[U8 x])::cellsA d [U8 x] e::F)->K (.slice E (n+1) L) H') :
  bS Tryz.prog (Builtin.append_ #[38,38] ty #[.slice a n c,.slice (some ⟨d,0,none⟩) 1 1]) H K:=by
 obtain⟨i,hi,G,s,I⟩:=Mn;have V:n+1<=maxLen:=by simp only[maxLen];omega
 have hd:H[d]?=some (.cells #[U8 x] e):=aO.get (F:=star _) h;have b:∀w:World,w.heap=H->∀(j:Nat) u,[U8 x][j]?=some u->w.cell? ((⟨d,0,none⟩:Addr).add j)=some u:=λw f j u C=>by
  subst f
  cases j with
  | succ j=>cases C
  | zero=>
   rw[fu,cell?_cellAt];unfold aM;rw[hd];exact C
 have J:∀u∈[U8 x],u.oneCell'=true:=λu Q=>by obtain rfl:=VH.1 Q;rfl
 have h:=h.o [1,0] 2;refine Mk (m:=1) (news:=[U8 x]) (F:=star _) h rfl T V (λw f v=>?_) (λw g y M f v R O Y A=>?_) (λw g f v A C=>?_) k
 .obtain⟨D,N⟩:=sj (F:=star _) h;have:n=0/\c=0:=by
   rcases N with ⟨-,e1,e2,-⟩|⟨g,y,M,e,-⟩
   .exact⟨e1,e2⟩
   .rw [v]at e;cases e
  obtain⟨rfl,rfl⟩:=this;subst v;have A:=b w f;subst f;obtain⟨U,S,r1,r2,r3,-⟩:=run_append_ownF (P:=Tryz.prog) w w.heap.size 38 ty 5 i (.int .u8 0) 1 1 Tryz.underlying38 hi G s I rfl (by decide) (.slice none 0 0) 0 [] ⟨rfl,.inl ⟨rfl,rfl⟩⟩ ⟨d,0,none⟩ 1 1 [U8 x] rfl A J (by omega) (by omega) (VD _);exact⟨U,S,r1,r2,r3⟩
 .have t:=b w f;subst f;subst v;have:=run_append_roomF (P:=Tryz.prog) w 38 ty 5 i Tryz.underlying38 hi g n c y M R (by rw[s];omega) ⟨d,0,none⟩ 1 1 [U8 x] (by rw[s];rfl) t J O (by rw[s];show n*1+1<=_;omega);rw[s,Wn]at this;exact this
 .have t:=b w f;subst f;subst v;obtain⟨D,-⟩:=sj (F:=star _) h;exact run_append_grow (P:=Tryz.prog) w 38 ty 5 i (.int .u8 0) Tryz.underlying38 hi G ⟨g,0,none⟩ n c xs (by rw[s];omega) C ⟨d,0,none⟩ 1 1 [U8 x] (by rw[s];rfl) t A (by omega) (by rw[I];exact growslice_fits (by omega) (by omega))
theorem Mo{p:Xa}{v:Value}(i:p=none\/p=some ⟨b,0,none⟩)(h:aA H (cellsA b [.pointer p,v] 61::F))(k:∀H',aA H' (cellsA b [PA b 0,v] 61::F)->K (.tuple #[]) H'):CF 44 #[PA b 0] H K:=by
 refine .mk λw d=>?_
 subst d;have a:w.heap[b]?=some (.cells #[.pointer p,v] 61):=aO.get (F:=star _) h;have c:w.cell? ⟨b,0,none⟩=some (.pointer p):=by
  rw[cell?_cellAt];unfold aM;rw[a];rfl
 rcases i with rfl|rfl
 .refine ib (Any.Builder_copyCheck_fresh { Tryz.joinA with } { Tryz.joinX with } b w c (by simp[World.shape?,a];rfl) (by simp[World.frozen?,a])) ?_;rintro e f ⟨rfl,rfl⟩;refine⟨_,rfl,⟨rfl,rfl,rfl⟩,k _ ?_⟩;rw[uL];exact aO.set1 (F:=star _) h 0 (PA b 0)
 .refine ib (Any.Builder_copyCheck_used { Tryz.joinA with } { Tryz.joinX with } b w c) ?_;rintro e f ⟨rfl,rfl⟩;exact⟨_,rfl,⟨rfl,rfl,rfl⟩,k _ h⟩
theorem Mp{s:List UInt8}(t:l.length+s.length<=100000000000)(h:aA H (bldA B b l::F))(k:∀H',aA H' (bldA B b (l++s)::F)->K (.tuple #[I64ZZ s.length,.nilIface]) H'):CF 20 #[PA b 0,.string (bL s)] H K:=by
 obtain⟨p,a,c,i,m,h⟩:=qI.1 h;have d:(bL s).size=s.length:=by show s.toArray.size=_;simp
 refine cM 20 4380 (Mo m h λu h=>?_)
 have n:=uA h;refine⟨rfl,_,_,_,h.r 0,UV (h.o [1,0] 2) (by omega) (by omega) λe f H2 h=>⟨_,_,_,rfl,h.st 1 rfl rfl λj h=>?_⟩⟩
 rw[d]at h;refine (k j (qI.2 ⟨_,e,f,i,.inr rfl,?_⟩));rw[V6,Mm,<-UU s];exact h.o [1,0] 2
theorem Mq{x:UInt8}(i:l.length+1<=100000000000)(h:aA H (bldA B b l::F))(k:∀H',aA H' (bldA B b (l++[x])::F)->K .nilIface H'):CF 21 #[PA b 0,U8 x.toNat] H K:=by
 obtain⟨p,a,c,n,s,h⟩:=qI.1 h;refine cM 21 4380 (Mo s h λt h=>?_)
 have e:=uA h;refine⟨rfl,_,_,_,h.r 0,h.al λd H2 h=>?_⟩
 have e:=uA (h.o [1,0] 2);refine UW (h.o [0,2,1] 3) (by omega) i λf m u h=>⟨_,_,_,rfl,h.st 2 rfl rfl λj h=>?_⟩
 refine (k j (qI.2 ⟨_,f,m,n,.inr rfl,?_⟩));rw[V6,Mm];exact h.o [2,0] 3
theorem Mr{H0:aC}(hs:H0.size<=B)(D:cV H0 H)(h:aA H (bldA B b l::F))(k:∀H',cV H0 H'->(∀i o,H[i]?=some o->i≠b->(∀c s,o≠.cells c 5 s)->H'[i]?=some o)->K (.string (bL l)) H'):CF 22 #[PA b 0] H K:=by
 obtain⟨p,a,c,G,J,h⟩:=qI.1 h;have A:=uA h;refine .mk λw I=>?_
 subst I;have d:w.heap[b]?=some (.cells #[.pointer p,.slice a l.length c] 61):=aO.get (F:=star _) h;obtain⟨u,x⟩:=sj (F:=star _) (h.o [1,0] 2);have n:w.ownsRowF B 5 1 (.slice a l.length c) l.length (Lib.byteCells l):=by
  refine⟨by simpa using u,?_⟩
  rcases x with ⟨rfl,e2,rfl,-⟩|⟨g,f,s,rfl,e2,e3,e4,e5,e6,e7,v⟩
  .left;rw[e2];exact⟨rfl,rfl⟩
  .exact .inr ⟨g,c,f,s,rfl,e2,v.get,by simpa using e3,e4,e5,by simpa using e6,by simpa using e7⟩
 have t:(Value.slice a l.length c).ownBlock≠some b:=by
  rcases x with ⟨rfl,e2,rfl,-⟩|⟨g,f,s,rfl,e2,e3,e4,e5,e6,e7,v⟩
  .simp [Value.ownBlock]
  .intro L;have j:g=b:=by simpa[Value.ownBlock] using L
   have:=v.get;rw[j,d]at this
   cases this
 have m:Lib.BuilderAtF 61 5 B b (.pointer p) (Lib.byteCells l) w:=⟨G,_,d,by rw[Lib.byteCells_length];exact n,t⟩;refine ib (Any.Builder_String_any_k { Tryz.joinA with } { Tryz.joinX with } B b l w ?_ (by omega)) ?_
 .rcases J with rfl|rfl
  .exact .inl m
  .exact .inr m
 .rintro e M ⟨rfl,-,hb,E⟩;refine⟨_,rfl,ru hb,k _ (λi hi=>?_) λi o hi C y=>E i o hi (by simpa using C) y⟩
  obtain⟨-,-,-,-,hb⟩:=hb;rw[<-D i hi];exact hb i (by omega)
end
def jY(e:Et):Option Et:=
 if e.kind=0 then some { e with now:=0 } else if e.kind=1 then some { e with ag:=0,bt:=0 } else if e.kind=2 then some { e with ag:=0,rd:=0,val:=0,nm:=⟨#[]⟩,labs:=[] } else
 if e.kind=3 then some { e with ag:=0,rd:=0 } else if e.kind=4 then some { e with num:=0,rd:=0 } else if e.kind=5\/e.kind=6 then some { e with num:=0 } else
 if e.kind=7 then some { e with ag:=0,bs:=[] } else if e.kind=8\/e.kind=9\/e.kind=10 then some e else if e.kind=11 then some { e with keep:=0 } else none
def numsE(r:Et):List Int:=[r.ag,r.now,r.rd,r.bt,r.val,r.num,r.keep]
def zeroE(a:Int)(r:Et):Bool:=((((decide (0<=a)&&decide (a<64))&&decide (numsE r=[0,0,0,0,0,0,0]))&&(r.nm.toList == (⟨#[]⟩:Eq).toList))&&decide ((r.labs.length:Int)=0))&&decide ((r.bs.length:Int)=0)
def mI(e:Et):Bool:=match jY e with|none=>false|some r=>zeroE e.ag r
section
variable {F L:List aD}{H:aC}{K:KQ}{e:Et}{ex:EtX}
theorem UX{a:Int}:bO Tryz.prog 157 #[I64ZZ a] H (.bool (decide (0<=a)&&decide (a<64))):=cM 157 28 ⟨rfl,rfl⟩
theorem eq7(r:Et):fH Tryz.prog .eql 316 (.agg ⟨[I64ZZ r.ag,I64ZZ r.now,I64ZZ r.rd,I64ZZ r.bt,I64ZZ r.val,I64ZZ r.num,I64ZZ r.keep]⟩) (.agg ⟨[I64ZZ 0,I64ZZ 0,I64ZZ 0,I64ZZ 0,I64ZZ 0,I64ZZ 0,I64ZZ 0]⟩) (decide (numsE r=[0,0,0,0,0,0,0])):=by
 have h:=(tz (P:=Tryz.prog) (t:=316) (xs:=[I64ZZ r.ag,I64ZZ r.now,I64ZZ r.rd,I64ZZ r.bt,I64ZZ r.val,I64ZZ r.num,I64ZZ r.keep]) (ys:=[I64ZZ 0,I64ZZ 0,I64ZZ 0,I64ZZ 0,I64ZZ 0,I64ZZ 0,I64ZZ 0])
  (r:=(r.ag == 0&&(r.now == 0&&(r.rd == 0&&(r.bt == 0&&(r.val == 0&&(r.num == 0&&(r.keep == 0&&true)))))))) (by kernel_rfl)).1
 have e:(r.ag == 0&&(r.now == 0&&(r.rd == 0&&(r.bt == 0&&(r.val == 0&&(r.num == 0&&(r.keep == 0&&true)))))))=decide (numsE r=[0,0,0,0,0,0,0]):=by
  unfold numsE
  grind
 rw[e]at h;exact h
theorem UY(h:aA H F)(k:∀H',aA H' F->K (.bool (mI e)) H'):CF 98 #[.agg ⟨aY e ex⟩] H K:=by
 refine Pd (h.al λb _ h=>⟨_,_,_,_,_,_,_,_,_,_,_,_,_,_,_,h.q 0,h.al λb1 _ h=>h.st 0 rfl rfl λH2 h=>⟨_,h.r 1,?_⟩⟩)
 intro R hJ;have fin:∀(r:Et) (rx:EtX) H',jY e=some r->aA H' (cellsA b1 (aY r rx) 40::cellsA b (aY e ex) 40::F)->R H':=by
  intro r rx H' hr h;have Y:mI e=zeroE e.ag r:=by grind [mI]
  rw[Y]at k;refine hJ _ ⟨_,h.r 0,_,h.r 0,_,h.r 0,_,h.r 0,_,h.r 0,_,h.r 0,_,h.r 0,h.al λb2 _ h=>h.st 0 rfl rfl λH3 h=>⟨_,h.r 2,_,UX,_,_,_,_,_,_,_,λ_=>h.q 0,_,λ_=>eq7 r,_,λ_=>h.r 1,_,_,_,λ_=>h.r 1,_,_,_,λ_=>h.r 1,?_⟩⟩
  exact k _ h.tl.tl.tl
 refine⟨λD=>h.st 0 rfl rfl λ_ h=>fin { e with now:=0 } ex _ (by unfold jY;grind) h,λD=>?_⟩
 have D:=V2 D;intro Z i;refine⟨λA=>h.st 0 rfl rfl λ_ h=>h.st 0 rfl rfl λ_ h=>i _ (fin { e with ag:=0,bt:=0 } ex _ (by unfold jY;grind) h),λA=>?_⟩
 have A:=V2 A;intro j2 m;refine⟨λL=>h.st 0 rfl rfl λ_ h=>h.st 0 rfl rfl λ_ h=>h.st 0 rfl rfl λ_ h=>h.st 0 rfl rfl λ_ h=>h.st 0 rfl rfl λ_ h=>m _ (i _ (fin { e with ag:=0,rd:=0,val:=0,nm:=⟨#[]⟩,labs:=[] } { ex with la:=none,lc:=0 } _ (by unfold jY;grind) h)),λL=>?_⟩
 have L:=V2 L;intro W s;refine⟨λv=>h.st 0 rfl rfl λ_ h=>h.st 0 rfl rfl λ_ h=>s _ (m _ (i _ (fin { e with ag:=0,rd:=0 } ex _ (by unfold jY;grind) h))),λv=>?_⟩
 have v:=V2 v;intro I y;have d:∀H,R H->I H:=λH x=>y _ (s _ (m _ (i _ x)))
 refine⟨λJ=>h.st 0 rfl rfl λ_ h=>h.st 0 rfl rfl λ_ h=>d _ (fin { e with num:=0,rd:=0 } ex _ (by unfold jY;grind) h),λJ=>?_⟩
 have J:=V2 J;intro E C;have c:∀t,(t=true↔e.kind=5\/e.kind=6)->E t H2:=by
  intro t S;refine C t _ ?_;intro h6 f;refine⟨λw=>h.st 0 rfl rfl λ_ h=>f _ (d _ (fin { e with num:=0 } ex _ (by unfold jY;grind) h)),λw=>?_⟩
  have j3:¬(e.kind=5\/e.kind=6):=λhn=>by grind
  intro T n;refine⟨λM=>h.st 0 rfl rfl λ_ h=>h.st 0 rfl rfl λ_ h=>n _ (f _ (d _ (fin { e with ag:=0,bs:=[] } { ex with ba:=none,bc:=0 } _ (by unfold jY;grind) h))),λM=>?_⟩
  have M:=V2 M;intro G O;have a:∀t,(t=true↔e.kind=8\/e.kind=9\/e.kind=10)->G t H2:=by
   intro t S;refine O t _ ?_;intro j1 u;refine⟨λw=>u _ (n _ (f _ (d _ (fin e ex _ (by unfold jY;grind) h)))),λw=>?_⟩
   have P:¬(e.kind=8\/e.kind=9\/e.kind=10):=λhn=>by grind
   refine⟨λB=>h.st 0 rfl rfl λ_ h=>u _ (n _ (f _ (d _ (fin { e with keep:=0 } ex _ (by unfold jY;grind) h)))),λB=>?_⟩
   have:mI e=false:=by
    unfold mI jY
    grind
   rw[this]at k;exact k _ h.tl.tl
  refine⟨λN=>a _ (by grind),λN=>?_⟩
  have N:=V2 N;intro Q j;refine⟨λU=>j _ _ (a _ (by grind)),λU=>j _ _ (a _ ?_)⟩
  grind
 refine⟨λV=>c _ (by grind),λV=>c _ ?_⟩
 grind
end
section
variable {F L:List aD}{H:aC}{K:KQ}{Q Q':aD}{f:bG}{fb j:Nat}{ab:Nat->Nat}{x:FlX}{ys:List Fy}{fs:List FcE}
theorem UZ{bt:Int}(a:j<64)(h:aA H (fltA Q fb ab f::F))(k:∀H',aA H' (fltA Q fb ab (gS f j (lr (f.ags j) bt).1)::F)->K (I64ZZ (lr (f.ags j) bt).2) H'):CF 99 #[PA (ab j) 0,I64ZZ bt] H K:=
 Tv (uv a h) λH' h=>k _ (xm a h)
theorem FSyncP(ok:jd f.g)(i:∀r∈f.g.rows,r.1<=f.g.rl.seg)(d:FlI Q f ys fs)(h:aA H (Q::flP Q fb ab f x ys fs F))
  (k:∀b a c H',b.map Oy.o=f.g.pend->(∀z∈b,iG Q z)->aA H' (Q::slA 222 11 a b.length c (aF cu b)::fltA Q fb ab { f with g:=j8 f.g }::F)->K (.slice a b.length c) H'):CF 106 #[PA x.gb 0] H K:=by
 refine Uj ok i (h.o [0,9,1,2,3,4,5,6,7,8] 10) λb a c H' hm e h=>k b a c _ hm e ?_
 have h:=Bk (aH.refl Q) d (h.o [2,3,4,5,6,7,8,9,10,0,1] 11);exact h.o [1,2,0] 3
end
section
variable {F L:List aD}{H:aC}{K:KQ}{Q Q':aD}{f:bG}{fb j:Nat}{ab:Nat->Nat}{x:FlX}{ys:List Fy}{fs:List FcE}{ns nf:Nat}
theorem upd_bool{g:Nat->Bool}{b:Bool}:upd (λi=>Value.bool (g i)) j (.bool b)=λi=>.bool (upd g j b i):=by
 funext i;unfold upd
 split <;> rfl
theorem Bx(g:Nat->Value)(T:Xb):∀(n i:Nat),(cY g n i T).length=n+T.length
 | 0,_=>by simp[cY]
 | n+1,i=>by show (cY g n (i+1) T).length+1=_;rw[Bx g T n (i+1)];omega
theorem Va:(fE f x ab ns nf).length=216:=by
 simp only[fE,nC,VA,Bx,V6,VV]
theorem Vb(a:j<64):cq (fE f x ab ns nf) (69+j) [.bool true]=fE { f with lagged:=upd f.lagged j true } x ab ns nf:=by
 show (fE f x ab ns nf).set (69+j) (.bool true)=_;rw[show 69+j=(64+j)+5 by omega];show _::_::_::_::_::(cY _ 64 0 (cY _ 64 0 _)).set (64+j) (.bool true)=_;rw[xl,AZ _ _ _ 64 0 j a,VB,upd_bool]
theorem st_lag{G:aC->Prop}(b:j<64)(h:aA H (cellsA fb (fE f x ab ns nf) 121::F))(k:∀H',aA H' (cellsA fb (fE { f with lagged:=upd f.lagged j true } x ab ns nf) 121::F)->G H'):dJ H fb (69+j) [.bool true]/\∀H',H'=ee H fb (69+j) [.bool true]->G H':=by
 refine⟨h.can 0 rfl _ _ (by rw[Va];simp;omega),?_⟩;rintro H' rfl;have a:=h.set 0 rfl (69+j) [.bool true];rw[Vb b]at a;exact k _ a
end
def pi(s:aV)(i:Nat):Bool:=(j0 s (i:Int)).2&&(j0 s (i:Int)).1.fl.out
def lz(G:bG)(t:Nat):bG:={ G with lagged:=λi=>G.lagged i||(decide (i<t)&&pi G.g.s i) }
def sr(f:bG):bG×Int:=
 if (fZ f.g f.now).2.2≠0 then ({ f with g:=(fZ f.g f.now).1 },(fZ f.g f.now).2.2) else (lz (je { f with g:=(fZ f.g f.now).1 } (fZ f.g f.now).2.1) 64,0)
theorem xx:∀(l:List Ou) (f:bG),(je f l).g=f.g
 | [],f=>rfl
 | o::l,f=>by
  show (je (out1 f o) l).g=f.g;rw[xx l];unfold out1
  split
  .rfl
  split
  .rfl
  split <;> rfl
theorem Vc{G:bG}{t:Nat}:lz G (t+1)=if pi G.g.s t=true then { lz G t with lagged:=upd (lz G t).lagged t true } else lz G t:=by
 have key:∀i,(G.lagged i||(decide (i<t+1)&&pi G.g.s i))=if i=t then (G.lagged t||pi G.g.s t) else (G.lagged i||(decide (i<t)&&pi G.g.s i)):=by
  grind
 split
 .rename_i h;unfold lz upd
  grind
 grind [lz]
def doF(f:bG)(e:Et)(cr:bG×Int):bG×Int:=
 if mI e=false then (f,10) else
 if e.kind=0 then (if e.now<f.now\/maxT<e.now then (f,11) else ({ f with now:=e.now },0)) else
 if e.kind=1 then (gS f e.ag.toNat (lr (f.ags e.ag.toNat) e.bt).1,(lr (f.ags e.ag.toNat) e.bt).2) else
 if e.kind=2 then (hrdF (lw f e.ag.toNat e).1 e.ag.toNat e.rd,(lw f e.ag.toNat e).2) else
 if e.kind=3 then (hrdF (pe f e.ag.toNat e.rd) e.ag.toNat e.rd,(j7 (f.ags e.ag.toNat) e.rd).2.2) else
 if e.kind=4 then arrF f e.num e.rd else
 if e.kind=5 then ({ f with w:=(ir f.w e.num).1 },(ir f.w e.num).2.2) else
 if e.kind=6 then ({ f with w:=(dblW f.w e.num).1 },(dblW f.w e.num).2.2) else
 if e.kind=7 then (putF { f with forged:=upd f.forged e.ag.toNat true } true e.ag e.bs,0) else
 if e.kind=8 then sr f else
 if e.kind=9 then (je { f with g:=j8 f.g } f.g.pend,0) else
 if e.kind=10 then ({ f with g:=(di f.g (sunkR f.sink.length)).1 },(di f.g (sunkR f.sink.length)).2) else cr
theorem rgt_ag{e:Et}(h:mI e=true):0<=e.ag/\e.ag<64:=by
 unfold mI at h
 split at h
 .cases h
 .unfold zeroE at h
  grind
structure FOk0(f:bG):Prop where
 gg:jd f.g
 w:kD f.w
 ags:∀j,j<64->gQ (f.ags j)
 rds:∀p∈f.rds,p.2.length<=1000000
 next:f.w.next<=30000000000
 sink:f.sink.length<=30000000000
 facts:f.facts.length<=3000
structure TkOk(f:bG):Prop where
 cm:jd (di f.g (eJ f.now)).1
 st:jd (fZ f.g f.now).1
 count:f.g.p.count+64<=1000000000000
 bs:∀o∈(fZ f.g f.now).2.1,aP o.bs/\o.bs.length<=1000000
 len:(fZ f.g f.now).2.1.length<=1000
theorem Ve{s:aV}(ok:dh s)(a:Int)(h:(j0 s a).2=true):1<=(j0 s a).1.en.epoch/\(j0 s a).1.en.epoch<=1099511627776:=by
 have f:=ok.rows.at a;unfold j0 at h ⊢
 split
 .rename_i b;obtain⟨d,st,c⟩:=ok.str b;have e:io s a=some st:=by unfold io;grind
  grind
 grind
section
variable {F L:List aD}{H:aC}{K:KQ}{Q Q':aD}{f:bG}{fb:Nat}{ab:Nat->Nat}{e:Et}{ex:EtX}
theorem Vf(ok:FOk0 f)(A:TkOk f)(h:aA H (Q::fltA Q fb ab f::F))
  (k:∀Q' H',aH Q Q'->aA H' (Q'::fltA Q' fb ab (sr f).1::F)->K (I64ZZ (sr f).2) H'):CF 105 #[PA fb 0] H K:=by
 obtain⟨x,ys,fs,W,h⟩:=dr.1 (swp h);refine cN 105 0x11d11215612399251117494c [[],[(32,sI)]] ⟨some ⟨x.gb,0,none⟩,h.r 0,_,h.r 0,?_⟩;have D:∃B os r,fZ f.g f.now=(B,os,r):=⟨_,_,_,rfl⟩;refine Uk (now:=f.now) ok.gg A.cm A.count (λU=>(lm (KE (s:=f.g.s) (r:=eJ f.now) (by
   unfold di at U
   grind))).nw) (λa ha h=>Ve A.cm.R.ok _ h) (h.o [9,8,0,1,2,3,4,5,6,7] 10) λQ1 Z a c H1 hs hm E h=>⟨_,_,_,_,rfl,?_⟩
 have h:=Bk hs W (h.o [2,3,4,5,6,7,8,9,10,0,1] 11);have h:=h.o [1,2,0] 3;obtain⟨B,os,r,D⟩:=D;have d:=A.st;have O:=A.bs;have J:=A.len;have I:=ok.w;have hn:=ok.next;have hk:=ok.sink;unfold sr at k;rw[D]at k hm O J d h;rw[D];dsimp only at *;have V:Z.length=os.length:=by grind
 refine⟨λC=>?_,λC=>?_⟩
 .rw [V1 (by grind)]at k;exact k Q1 _ hs (h.o [0,2] 3)
 rw[Vz (by grind)]at k;refine Leave_spec (f:={ f with g:=B }) I (by grind) (by grind) (λz L=>⟨E z L,O z.o (by grind)⟩) h λQ2 H2 s2 h=>⟨rfl,?_⟩
 rw[hm]at h;have P:(je { f with g:=B } os).g=B:=xx _ _;have v:∃G,je { f with g:=B } os=G:=⟨_,rfl⟩;obtain⟨G,v⟩:=v;rw[v]at h k P;have d:jd G.g:=by rw[P];exact d
 obtain⟨x2,m,i,u,h⟩:=dr.1 (swp h);refine⟨some ⟨x2.gb,0,none⟩,h.r 0,?_⟩;refine Ub d (h.o [8,0,1,2,3,4,5,6,7,9] 10) λsb H3 h=>⟨some ⟨sb,0,none⟩,rfl,?_⟩
 have Y:lz G 0=G:=by unfold lz;simp
 refine⟨λt H'=>∃n:Nat,t=n/\n<=64/\aA H' (cellsA fb (fE (lz G n) x2 ab m.length i.length) 121::stA Q2 sb G.g.s::gateA Q2 x2.gb x2.db G.g::ledA x2.lb G.led::mapA aggI3 aggPt x2.sm G.spans::outS x2.sa x2.sc m::slA 322 9 x2.fa i.length x2.fc (aF iL i)::readA x2.rm G.rds::agsX Q2 ab G.ags 64 64::wireA Q2 x2.wb G.w::Q2::F),
  λt _=>64-t.toNat,⟨0,rfl,by omega,by rw[Y];exact h.o [2,0,1,3,4,5,6,7,8,9,10] 11⟩,?_⟩
 clear h
 rintro t H4 ⟨n,rfl,N,h⟩;refine⟨λM=>?_,λM=>?_⟩
 .have y:n<64:=by grind
  have T:i64.wrap ((n:Int)+1)=((n+1:Nat):Int):=by grind [aJ]
  refine Ji (a:=(n:Int)) d.R.ok (h.o [1,0,2,3,4,5,6,7,8,9,10] 11) λH5 h=>⟨_,_,_,_,_,_,_,_,_,_,_,_,rfl,h.al λb _ h=>h.st 0 rfl rfl λH6 h=>⟨_,λ_=>h.r 0,?_⟩⟩
  have j:=@Vc G n;intro Jn S;refine⟨λC=>⟨⟨by omega,by omega⟩,?_⟩,λC=>S _ ⟨⟨n+1,T,y,?_⟩,by grind⟩⟩
  .rw [V1 (show pi G.g.s n=true from C)]at j;refine st_lag (f:=lz G n) (x:=x2) (ns:=m.length) (nf:=i.length) y (h.o [2,0,1,3,4,5,6,7,8,9,10,11] 12) λH7 h=>S _ ⟨⟨n+1,T,y,?_⟩,by grind⟩
   rw[j];exact h.o [0,2,3,4,5,6,7,8,9,10,11] 12
  .rw [Vz (show ¬pi G.g.s n=true from λe=>by grind [pi])]at j
   rw[j];exact h.o [2,1,3,4,5,6,7,8,9,10,11] 12
 .have M:=V2 M;obtain rfl:n=64:=by omega
  refine k Q2 _ (hs.trans s2) (swp ((dr (f:=lz G 64)).2 ⟨x2,m,i,⟨u.sink,u.ys,u.facts,u.fs⟩,?_⟩));exact h.o [0,3,4,5,6,7,8,9,2,10] 11
theorem Vg{cr:bG×Int}(ok:FOk0 f)(D:e.kind≠5/\e.kind≠6/\e.kind≠7/\e.kind≠10/\e.kind≠11)(W:bB Q ex.la (aF aZ e.labs))(P:e.labs.length<=1000000)
  (U:e.kind=8->TkOk f) (hs:e.kind=9->(∀r∈f.g.rows,r.1<=f.g.rl.seg)/\(∀o∈f.g.pend,aP o.bs/\o.bs.length<=1000000)/\f.g.pend.length<=100000000)
  (h:aA H (Q::fltA Q fb ab f::F))
  (k:∀Q' H',aH Q Q'->aA H' (Q'::fltA Q' fb ab (doF f e cr).1::F)->K (I64ZZ (doF f e cr).2) H'):CF 55 #[PA fb 0,.agg ⟨aY e ex⟩] H K:=by
 have B:=ok.gg;refine Pf (h.al λb _ h=>⟨_,_,_,_,_,_,_,_,_,_,_,_,_,_,_,h.q 0,?_⟩)
 refine UY h λH1 h=>⟨_,rfl,λL=>?_,λL=>⟨_,h.r 0,?_⟩⟩
 .unfold doF at k;rw[V1 (by grind)]at k;exact k Q _ (aH.refl Q) (h.o [1,2] 3)
 have L:mI e=true:=by grind
 obtain⟨a0,a1⟩:=rgt_ag L;obtain⟨j,S⟩:∃j:Nat,e.ag=(j:Int):=⟨_,(Int.toNat_of_nonneg a0).symm⟩;have d:j<64:=by omega
 have A:e.ag.toNat=j:=by omega
 unfold doF at k;rw[Vz (by grind),A]at k;have h:=h.o [1,2,0] 3;intro Jn T;refine⟨λm=>?_,λm=>⟨λt=>?_,λt=>⟨λn=>?_,λn=>⟨λs=>?_,λs=>⟨λy=>?_,λy=>⟨λI=>V0 (V3 I) D.1,λI=>⟨λJ=>V0 (V3 J) D.2.1,λJ=>?_⟩⟩⟩⟩⟩⟩⟩
 .rw [V1 (V3 m)]at k;obtain⟨x,ys,fs,i,h⟩:=dr.1 (swp h);refine⟨_,h.r 10,_,h.r 0,_,λ_=>h.r 10,λR=>?_,λR=>⟨_,h.r 10,h.st 0 rfl rfl λH2 h=>T _ ?_⟩⟩
  .rw [V1 (by grind)]at k;exact k Q _ (aH.refl Q) (swp (dr.2 ⟨x,ys,fs,i,h.o [0,1,2,3,4,5,6,7,8,9] 11⟩))
  .rw [Vz (by grind)]at k;have h:aA H2 (cellsA fb (fE { f with now:=e.now } x ab ys.length fs.length) 121::_):=h;exact k Q _ (aH.refl Q) (swp ((dr (f:={ f with now:=e.now })).2 ⟨x,ys,fs,⟨i.sink,i.ys,i.facts,i.fs⟩,h.o [0,1,2,3,4,5,6,7,8,9] 11⟩))
 .rw [Vz (V2 m),V1 (V3 t)]at k;obtain⟨x,ys,fs,i,h⟩:=dr.1 (swp h);refine⟨_,h.rd 10 rfl _,⟨by omega,by omega⟩,some ⟨ab j,0,none⟩,(by rw[A];exact (h.r 0).trans (Bi (f:=f) (x:=x) d)),_,h.r 10,?_⟩;exact UZ d (dr.2 ⟨x,ys,fs,i,h⟩) λH' h=>⟨_,rfl,k Q _ (aH.refl Q) (h.o [1,0] 3)⟩
 .have n:=V3 n;rw[Vz (V2 m),Vz (V2 t),V1 n]at k;refine⟨_,_,_,_,_,_,_,_,_,_,_,_,_,_,_,h.q 2,?_⟩;exact U3 d (ok.ags j d) (by have:=ok.facts;omega) S W P ok.rds h λQ' H' hs h=>⟨_,rfl,k Q' _ hs (h.o [0,1] 3)⟩
 .have s:=V3 s;rw[Vz (V2 m),Vz (V2 t),Vz (V2 n),V1 s]at k;refine⟨_,_,_,_,_,_,_,_,_,_,_,_,_,_,_,h.q 2,?_⟩;exact Uz d (ok.ags j d) ok.w (by have:=ok.next;omega) S ok.rds h λQ' H' hs h=>⟨_,rfl,k Q' _ hs (h.o [0,1] 3)⟩
 .have y:=V3 y;rw[Vz (V2 m),Vz (V2 t),Vz (V2 n),Vz (V2 s),V1 y]at k;refine⟨_,_,_,_,_,_,_,_,_,_,_,_,_,_,_,h.q 2,?_⟩;exact U9 B ok.w ok.ags ok.rds h λQ' H' hs h=>⟨_,rfl,k Q' _ hs (h.o [0,1] 3)⟩
 rw[Vz (V2 m),Vz (V2 t),Vz (V2 n),Vz (V2 s),Vz (V2 y),Vz (V2 I),Vz (V2 J)]at k;intro j1 M;refine⟨λC=>V0 (V3 C) D.2.2.1,λC=>⟨λE=>?_,λE=>?_⟩⟩
 .rw [Vz (V2 C),V1 (V3 E)]at k;exact Vf ok (U (V3 E)) h λQ' H' hs h=>⟨_,rfl,k Q' _ hs (h.o [0,1] 3)⟩
 rw[Vz (V2 C),Vz (V2 E)]at k;intro V N;refine⟨λG=>?_,λG=>⟨λv=>V0 (V3 v) D.2.2.2.1,λv=>⟨λu=>V0 (V3 u) D.2.2.2.2,λu=>?_⟩⟩⟩
 .rw [V1 (V3 G)]at k;obtain⟨s1,s2,s3⟩:=hs (V3 G);obtain⟨x,ys,fs,i,h⟩:=dr.1 (swp h);refine⟨some ⟨x.gb,0,none⟩,h.r 0,?_⟩;refine FSyncP B s1 i (h.o [9,0,1,2,3,4,5,6,7,8,10] 11) λzs a c H' hm Z h=>⟨_,_,_,rfl,?_⟩
  have Y:zs.length=f.g.pend.length:=by grind
  refine Leave_spec (f:={ f with g:=j8 f.g }) ok.w (by have:=ok.next;grind) (by have:=ok.sink;grind) (λz O=>⟨Z z O,s2 z.o (by grind)⟩) h λQ' H2 hs h=>⟨rfl,N _ (M _ (T _ (k Q' _ hs ?_)))⟩
  rw[hm]at h;exact h.o [0,1] 3
 .exfalso;have e0:jY e=none:=by
   have q0:=V2 m;have q1:=V2 t;have q2:=V2 n;have q3:=V2 s;have q4:=V2 y;have q5:=V2 I;have q6:=V2 J;have q7:=V2 C;have q8:=V2 E;have q9:=V2 G;have j2:=V2 v;have j3:=V2 u;unfold jY
   grind
  grind [mI]
end
structure Fcg where
 o:Opt
 buf:Int
 pk:Int
abbrev kF(c:Fcg):Xb:=[aB c.o.cfg.width,aB c.o.cfg.policy,aB c.o.cfg.most,aB c.o.cfg.lag,aB c.o.cfg.rho,aB c.o.cfg.trust,aB c.o.cfg.agents,aB c.o.cfg.cells,aB c.o.cfg.hold,aB c.o.period,aB c.o.probes,aB c.o.segment,aB c.o.save,aB c.buf,aB c.pk]
def ptN(ab:Nat->Nat)(n i:Nat):Value:=bif Nat.blt i n then PA (ab i) 0 else .pointer none
theorem ptN_lt{ab:Nat->Nat}{n i:Nat}(h:i<n):ptN ab n i=PA (ab i) 0:=by grind [ptN,Nat.blt_eq]
theorem ptN_ge{ab:Nat->Nat}{n i:Nat}(h:n<=i):ptN ab n i=.pointer none:=by
 grind [ptN,Nat.blt_eq]
theorem ptN_upd(ab:Nat->Nat)(n b:Nat):upd (ptN ab n) n (PA b 0)=ptN (upd ab n b) (n+1):=by
 grind [ut,ptN_lt,xk,ptN_ge]
theorem ptN_all(ab:Nat->Nat)(T:Xb):cY (ptN ab 64) 64 0 T=cY (λi=>PA (ab i) 0) 64 0 T:=by
 have:∀n i,n+i<=64->cY (ptN ab 64) n i T=cY (λi=>PA (ab i) 0) n i T:=by
  intro n
  induction n with
  | zero=>intros;rfl
  | succ n ih=>
   intro i hi;show ptN ab 64 i::_=PA (ab i) 0::_
   grind [ptN_lt]
 grind
abbrev ow(c:Fcg)(lb sm rm db:Nat)(ab:Nat->Nat)(n:Nat)(w:Value):Xb:=
 PA lb 0::.map (some sm)::.slice none 0 0::.slice none 0 0::.map (some rm)::cY (λ_=>.bool false) 64 0 (cY (λ_=>.bool false) 64 0
  (nC c.o++(aB c.buf::aB c.pk::aB 0::cY (ptN ab n) 64 0 [w,PA db 0,.pointer none])))
def fcR(c:Fcg):Bool:=(mA c.o&&decide (1<=c.buf/\c.buf<=1024))&&decide (1<=c.pk/\c.pk<=4096)
def ag0(buf:Int)(i:Nat):Ag:={ id:=i,most:=buf }
section
variable {F L:List aD}{H:aC}{K:KQ}{Q Q':aD}
theorem Ms{i:Nat}{buf:Int}(hi:i<64)(h:aA H F)(k1:¬(1<=buf/\buf<=1024)->K (.tuple #[.pointer none,I64ZZ 11]) H)
  (k2:1<=buf/\buf<=1024->∀ab H',aA H' (agA Q ab (ag0 buf i)::F)->K (.tuple #[PA ab 0,I64ZZ 0]) H'):CF 51 #[I64ZZ (i:Int),I64ZZ buf] H K:=by
 refine cM 51 476 ⟨λa=>k1 ?_,λa=>h.al λab H' h=>k2 ?_ ab _ (de.2 ⟨{},[],rfl,λe b=>V0 b (by simp),?_⟩)⟩
 .grind
 .grind
 .exact ((h.sl_nil 449 3).sl_nil 258 4).o [2,0,1] 3
theorem AgNewE{buf:Int}(h:aA H F)(k:∀p H',aA H' F->K (.tuple #[.pointer p,I64ZZ (eR (1<=buf/\buf<=1024))]) H'):CF 51 #[I64ZZ 0,I64ZZ buf] H K:=by
 refine Ms (Q:=emp) (i:=0) (by decide) h (λb=>?_) λa ab H' h=>?_
 .have:=k none _ h;rwa[show eR (1<=buf/\buf<=1024)=11 from Vz b]at this
 .have:=k (some ⟨ab,0,none⟩) _ h.tl;rwa[show eR (1<=buf/\buf<=1024)=0 from V1 a]at this
theorem WNewE{pk:Int}(h:aA H F)(k:∀p H',aA H' F->K (.tuple #[.pointer p,I64ZZ (eR (1<=pk/\pk<=4096))]) H'):CF 52 #[I64ZZ pk] H K:=by
 refine Lx (Q:=emp) h (λb=>?_) λa ab H' h=>?_
 .have:=k none _ h;rwa[show eR (1<=pk/\pk<=4096)=11 from nO]at this
 .have:=k (some ⟨ab,0,none⟩) _ h.tl;rwa[show eR (1<=pk/\pk<=4096)=0 from V1 a]at this
theorem Mt{c:Fcg}(h:aA H F)(k:∀H',aA H' F->K (.bool (fcR c)) H'):CF 48 #[.agg ⟨kF c⟩] H K:=by
 refine cM 48 4380 (h.al λb _ h=>⟨_,h.r 0,?_⟩)
 refine AgNewE h λp d h=>⟨_,_,rfl,_,h.r 0,?_⟩
 refine WNewE h λp2 H2 h=>⟨_,_,rfl,_,_,_,_,_,_,_,_,_,_,_,_,_,h.q 0,?_⟩
 refine KH (o:=c.o) h λa h=>⟨_,rfl,?_⟩
 have e:fcR c=((mA c.o&&decide (eR (1<=c.buf/\c.buf<=1024)=0))&&decide (eR (1<=c.pk/\c.pk<=4096)=0)):=by grind [fcR]
 have:=k _ h.tl;rw[e]at this;exact this
theorem Mu{ab ab':Nat->Nat}{ags:Nat->Ag}{s:Nat}:∀{n:Nat},(∀i,i<n->ab i=ab' i)->agsX Q ab ags s n=agsX Q ab' ags s n
 | 0,_=>rfl
 | n+1,h=>by
  unfold agsX;rw[Mu (n:=n) λi hi=>h i (by omega),h n (by omega)]
theorem Vh{c:Fcg}{lb sm rm db n:Nat}{ab:Nat->Nat}{w:Value}:(ow c lb sm rm db ab n w).length=216:=by
 simp only[ow,nC,VA,Bx,V6,VV]
theorem Vi{c:Fcg}{lb sm rm db n b:Nat}{ab:Nat->Nat}{w:Value}(a:n<64):cq (ow c lb sm rm db ab n w) (149+n) [PA b 0]=ow c lb sm rm db (upd ab n b) (n+1) w:=by
 show (ow c lb sm rm db ab n w).set (149+n) (PA b 0)=_;rw[show 149+n=(64+(64+(n+16)))+5 by omega];show _::_::_::_::_::(cY _ 64 0 (cY _ 64 0 _)).set (64+(64+(n+16))) (PA b 0)=_;rw[xl,xl];show _::_::_::_::_::cY _ 64 0 (cY _ 64 0 (_::_::_::_::_::_::_::_::_::_::_::_::_::_::_::_::(cY _ 64 0 _).set n (PA b 0)))=_;rw[AZ _ _ _ 64 0 n a,VB,ptN_upd];rfl
theorem st_new{G:aC->Prop}{fb:Nat}{c:Fcg}{lb sm rm db n b:Nat}{ab:Nat->Nat}{w:Value}(d:n<64)(h:aA H (cellsA fb (ow c lb sm rm db ab n w) 121::F))(k:∀H',aA H' (cellsA fb (ow c lb sm rm db (upd ab n b) (n+1) w) 121::F)->G H'):dJ H fb (149+n) [PA b 0]/\∀H',H'=ee H fb (149+n) [PA b 0]->G H':=by
 refine⟨h.can 0 rfl _ _ (by grind [Vh]),?_⟩;rintro H' rfl;have a:=h.set 0 rfl (149+n) [PA b 0];rw[Vi d]at a;exact k _ a
def newF(c:Fcg)(g:Gg):bG:={ o:=c.o,buf:=c.buf,pk:=c.pk,ags:=ag0 c.buf,w:=⟨c.pk,0,[]⟩,g:=g }
abbrev newG(c:Fcg):Gg:=AY c.o (cR c.o.cfg) []
theorem fcR_of{c:Fcg}(h:fcR c=true):mA c.o=true/\(1<=c.buf/\c.buf<=1024)/\1<=c.pk/\c.pk<=4096:=by
 unfold fcR at h
 grind
end
section
variable {F L:List aD}{H:aC}{K:KQ}{Q Q':aD}{f:bG}{fb wb:Nat}{ab:Nat->Nat}{w:Wr}
theorem Mv(hs:aH Q Q')(h:aA H (fltA Q fb ab f::F)):aA H (fltA Q' fb ab f::F):=by
 obtain⟨x,ys,fs,a,h⟩:=dr.1 h;have h:=sf hs (h.o [7,0,1,2,3,4,5,6,8] 9);have h:=Bf hs (h.o [7,8,0,1,2,3,4,5,6] 9);exact dr.2 ⟨x,ys,fs,a.sub hs,h.o [3,4,5,6,7,8,0,2,1] 9⟩
theorem Vj(hb:∀b∈f.sink,b.length<=1000000)(T:f.sink.length<=100000000000)(h:aA H (Q::fltA Q fb ab f::F))
  (k:∀Q' ys a c H',aH Q Q'->ys.map Fy.bs=f.sink->mC Q' ys->(∀y∈ys,y.bs.length<=y.c)->aA H' (Q'::outS a c ys::fltA Q' fb ab f::F)->K (.slice a ys.length c) H'):CF 59 #[PA fb 0] H K:=by
 obtain⟨x,ys,fs,w,h⟩:=dr.1 (swp h);have C:ys.length=f.sink.length:=by rw[<-w.sink,VP]
 have h:=(h.sl_nil 38 1).o [0,10,1,2,3,4,5,6,7,8,9] 11;refine cN 59 0x1121561239925144c [[(3,sS),(12,sI)]] ⟨_,_,_,h.r 2,?_⟩;refine⟨λla J lc t H'=>∃(j:Nat) (Q':aD) (d:List Fy),t=j/\j<=ys.length/\J=d.length/\aH Q Q'/\d.map Fy.bs=f.sink.take j/\mC Q' d/\(∀y∈d,y.bs.length<=y.c)/\aA H' (outS la lc d::Q'::flP Q fb ab f x ys fs F),λ_ _ _ t _=>ys.length-t.toNat,
  ⟨0,Q,[],rfl,VE _,rfl,aH.refl Q,rfl,λy i=>V0 i (by simp),λy i=>V0 i (by simp),h⟩,?_⟩
 clear h
 rintro la J lc t O ⟨j,A,d,rfl,U,rfl,hs,hm,G,L,h⟩;have N:d.length=j:=by have:=congrArg List.length hm;grind
 refine⟨λE=>?_,λE=>?_⟩
 .have n:j<ys.length:=by grind
  have u:j<f.sink.length:=by omega
  have R:i64.wrap ((j:Int)+1)=((j+1:Nat):Int):=by grind [aJ]
  have D:=h.sl_rd 5 rfl;rw[show ys.map cF=aF (λy:Fy=>[cF y]) ys from List.map_eq_flatMap]at D
  have M:ys[j].bs=f.sink[j]:=by
   have:=w.sink
   grind
  have S:=hb _ (V7 u);have B:aM O (aW x.sa) (aT x.sa+j)=some (.slice ys[j].a ys[j].bs.length ys[j].c):=by simpa using D.el (λ_=>rfl) n 0 (v:=.slice ys[j].a ys[j].bs.length ys[j].c) rfl
  refine⟨⟨by omega,by omega⟩,_,_,D.some (λ_=>rfl) (by decide) n,_,_,_,B,?_⟩
  refine rE h (λH h=>((w.ys _ (V7 n)).sub hs).at h 1 rfl) (by grind) λa1 c1 H2 h=>⟨_,_,_,rfl,h.al λb1 _ h=>?_⟩
  refine h.append (m:=1) (ws:=[cF ⟨a1,c1,ys[j].bs⟩]) slYs 2 rfl (h.ce_rd 0 rfl) rfl rfl (by omega) (by omega) λa2 c2 P h=>⟨_,_,_,rfl,?_⟩
  have I:ys[j].bs.length<=c1:=h.sl_nc 1 rfl;obtain⟨Q2,s⟩:∃Q2,Q2=slA 5 1 a1 ys[j].bs.length c1 (ys[j].bs.map U8)*A:=⟨_,rfl⟩;have s2:aH A Q2:=by rw[s];exact aH.add _ A
  have e:d.length+1=(d++[(⟨a1,c1,ys[j].bs⟩:Fy)]).length:=by simp
  have e2:d.map cF++[cF ⟨a1,c1,ys[j].bs⟩]=(d++[(⟨a1,c1,ys[j].bs⟩:Fy)]).map cF:=by simp
  have h:=lv s (h.o [1,3,2,4,5,6,7,8,9,10,11,12] 13);have h:aA P (Q2::slA 38 1 a2 (d.length+1) c2 (d.map cF++[cF ⟨a1,c1,ys[j].bs⟩])::_):=h;rw[e,e2]at h;refine⟨⟨j+1,Q2,d++[⟨a1,c1,ys[j].bs⟩],R,n,e,hs.trans s2,?_,λy i=>?_,λy i=>?_,swp h⟩,by grind⟩
  .simp_all
  .rcases VJ.1 i with i|i
   .exact (G y i).sub s2
   .rw [VH]at i;subst i;rw[s];exact bB.sl
  grind
 .have E:=V2 E;obtain rfl:j=ys.length:=by omega
  rw[C,VO]at hm;refine k A d la lc _ hs hm G L ?_;have h:=dr.2 ⟨x,ys,fs,w,h.o [2,3,4,5,6,7,8,9,10,0,1] 11⟩;exact (Mv hs h).o [2,1,0] 3
end
def jf(f:bG)(k:Id3):Vd×Pt:=((aK k f.led).getD ⟨0,0⟩,(aK k f.spans).getD (0,0))
abbrev encSd(s:Vd×Pt):Xb:=[I64ZZ s.1.re,I64ZZ s.1.win,I64ZZ s.2.1,I64ZZ s.2.2]
abbrev aggSd(s:Vd×Pt):Value:=.agg ⟨encSd s⟩
section
variable {F L:List aD}{H:aC}{K:KQ}{Q Q':aD}{f:bG}{fb:Nat}{ab:Nat->Nat}{m:Ldg}{mb lb:Nat}
theorem Vk{l c0:Nat}(A:List Id3->aD)(h:aA H (A []::cellsA c0 [.map (some mb)] 191::mapA aggI3 aggVd mb m::F))
  (u:∀dn key (G:List aD) (f:aC) (n:KQ),dn.length<m.length->aA f (A dn::G)->(∀H2,aA H2 (A (dn++[key])::G)->n (.bool true) H2)->eK Tryz.prog l [aggI3 key] f n)
  (k:∀dn H',dn.Perm (aL m)->aA H' (A dn::cellsA c0 [.map (some mb)] 191::mapA aggI3 aggVd mb m::F)->K (.tuple #[]) H') :
  CF 306 #[.func (.yield l) #[] #[],PA c0 0] H K:=by
 refine cN 306 6017780034900889 [[]] ?_;refine⟨_,h.r 1,?_⟩
 conv=>whnf
 refine h.rg_new mtL 2 rfl λd f h=>⟨d,rfl,?_⟩
 refine⟨λH'=>∃dn:Ldg,aA H' (A (aL dn)::cellsA c0 [.map (some mb)] 191::gy aggI3 aggVd d mb m dn::F),λH'=>m.length-pN H' d,⟨[],h⟩,?_⟩
 rintro H2 ⟨dn,h⟩;have j:=h.rg_count 2 rfl;refine h.rg_next 2 rfl (λw=>.inl ⟨rfl,(λb=>by cases b),λ_=>?_⟩) λp v s y h=>.inr ⟨_,_,rfl,(λ_=>?_),λb=>by cases b⟩
 .exact k (aL dn) _ (w.map Prod.fst) (h.rg_map 2 rfl)
 .have a:=h.rg_count 2 rfl;have c:=aA.rg_entry (P:=Tryz.prog) h 2 rfl;refine⟨_,_,_,_,c,h.al λb1 _ h=>h.st 0 rfl rfl λx h=>⟨_,_,_,h.q 0,?_⟩⟩
  rw[V6]at a;have i:(aL dn).length<m.length:=by grind
  refine u (aL dn) p.1 _ _ _ i (h.o [1,0,2,3] 4) λt h=>⟨true,rfl,(λb=>by cases b),λ_=>?_⟩
  have h:aA t (A (aL dn++[p.1])::cellsA c0 [.map (some mb)] 191::gy aggI3 aggVd d mb m (dn++[p])::F):=h.o [0,2,3] 4;refine⟨⟨dn++[p],?_⟩,?_⟩
  .have e:aL (dn++[p])=aL dn++[p.1]:=by grind
   rw[e];exact h
  .have:=h.rg_count 2 rfl
   grind
theorem Vl{c0:Nat}(x:m.length<=100000000000)(h:aA H (cellsA c0 [.map (some mb)] 191::mapA aggI3 aggVd mb m::F))
  (k:∀dn a c H',dn.Perm (aL m)->aA H' (slA 136 3 a dn.length c (aF kE dn)::mapA aggI3 aggVd mb m::F)->K (.slice a dn.length c) H') :
  CF 396 #[.slice none 0 0,.func (.func 306) #[] #[PA c0 0]] H K:=by
 refine cL 396 (.r (.seq (.r (.blk (.rng [.agg [.int .i64,.int .i64,.int .i64]] [none] .reg (.blk .reg)))) (.r .no))) ?_;refine h.al λb _ h=>⟨rfl,λR e d s=>?_⟩
 rename_i H0;have h:=h.rng R;have h:=h.sl_nil 136 3;refine Vk (m:=m) (mb:=mb) (λdn=>exS λp:Xa×Nat=>star [cellsA b [.slice p.1 dn.length p.2] 342,slA 136 3 p.1 dn.length p.2 (aF kE dn),pt (H0.size+1) (.loop R)])
  (F:=pt H0.size (.deferred (some []))::F) ?_ ?_ ?_
 .have h:=h.o [3,0,1,4,5,2] 6;exact cy.2 ⟨(none,0),aA.shut [_,_,_] h⟩
 .intro dn key G j D u h i;obtain⟨⟨a,c⟩,h⟩:=cy.1 h;have h:=aA.open (A:=[_,_,_]) h;refine s _ _ _ ⟨_,_,_,rfl,h.getO 2 rfl,h.al λb1 _ h=>h.st 0 rfl rfl λC h=>⟨h.getO 3 rfl,h.stl 3 rfl λw h=>⟨_,_,_,h.r 1,_,_,_,h.q 0,?_⟩⟩⟩
  refine h.al λb2 _ h=>?_
  refine h.append (m:=1) (ws:=kE key) slI3 3 rfl (h.ce_rd 0 rfl) rfl rfl (by omega) (by omega) λf n B h=>⟨_,_,_,rfl,h.st 2 rfl rfl λy h=>⟨h.getO 4 rfl,i _ ?_⟩⟩
  have h:=h.setO 4 rfl (.loop R);refine cy.2 ⟨(f,n),aA.shut [_,_,_] ?_⟩;rw[gx,lL,V6];exact h.o [2,3,4] 5
 .intro dn j t h;obtain⟨⟨a,c⟩,h⟩:=cy.1 h;have h:=aA.open (A:=[_,_,_]) h;refine⟨.ready,none,by decide,by rw[kT e d];exact h.getO 2 rfl,h.stl 2 rfl λv h=>⟨rfl,?_⟩⟩
  refine⟨_,_,_,h.r 0,h.getO 5 rfl,?_⟩;have h:=h.setO 5 rfl (.deferred none);exact k dn a c _ t (h.o [1,4] 6)
theorem Vm{l c0:Nat}(y:m.length<=100000000000)(A:List Id3->Nat->aD)(B:aD)(h:aA H (cellsA c0 [PA lb 0] 108::ledA lb m::B::F))
  (n:∀ys G H',aA H' (ledA lb m::B::G)->aA H' (A ys 0::G))
  (C:∀ys j (E:j<ys.length) (G:List aD) (f:aC) (u:KQ),ys.Perm (aL m)->aA f (A ys j::G)->(∀H2,aA H2 (A ys (j+1)::G)->u (.bool true) H2)->eK Tryz.prog l [aggI3 ys[j],aggVd ((aK ys[j] m).getD ⟨0,0⟩)] f u)
  (k:∀ys H',ys.Perm (aL m)->aA H' (A ys ys.length::F)->K (.tuple #[]) H') :
  CF 177 #[.func (.yield l) #[] #[],PA c0 0] H K:=by
 obtain⟨mb,h⟩:=mF.1 (h.o [1,0,2] 3);refine cN 177 0x11561239925113994 [[(15,sI)]] ⟨some ⟨lb,0,none⟩,h.rd 2 rfl _,⟨_,h.r 0,?_⟩⟩;refine Us h 1 rfl λr f h=>⟨_,rfl,?_⟩
 refine cM 180 28 (h.al λkc _ h=>⟨_,_,rfl,?_⟩)
 refine cM 179 4380 ?_;refine cM 304 28 ?_;refine Vl y h λdn a c f v h=>⟨_,_,_,rfl,_,_,_,rfl,?_⟩
 have D:dn.length=m.length:=by rw[v.length_eq];grind
 refine Ur h 0 rfl (by omega) λys H2 d h=>⟨rfl,⟨_,_,_,rfl,?_⟩⟩
 have e:=d.trans v;have i:ys.length=dn.length:=d.length_eq;rw[<-i];have h:=mF.2 ⟨mb,h.o [2,3,5,0,1] 6⟩;have h:=n ys _ _ h;refine⟨λt H'=>∃j:Nat,t=j/\j<=ys.length/\aA H' (A ys j::slA 136 3 a ys.length c (aF kE ys)::mapA aggI3 aggVd r m::F),λt _=>ys.length-t.toNat,⟨0,rfl,VE _,h⟩,?_⟩
 rintro t I ⟨j,rfl,E,h⟩;refine⟨λw=>?_,λw=>?_⟩
 .have b:j<ys.length:=by grind
  have s:=h.sl_rd 1 rfl;have M:i64.wrap ((j:Int)+1)=((j+1:Nat):Int):=by grind [aJ]
  refine⟨⟨by omega,by omega⟩,_,_,s.some AX (by omega) b,_,_,_,s.els AX b,h.al λb1 _ h=>h.st 0 rfl rfl λL h=>⟨_,_,_,h.q 0,_,_,_,h.q 0,_,_,h.mp_get1 mtL mE 3 rfl (x:=ys[j]),?_⟩⟩
  refine C ys j b _ L _ e (h.o [1,0,2,3] 4) λN h=>⟨true,rfl,(λJ=>by cases J),λ_=>⟨⟨j+1,M,b,h.o [0,2,3] 4⟩,by grind⟩⟩
 .have:j=ys.length:=by grind
  subst this;exact k ys I e (h.o [0] 3)
theorem Vn{l c0:Nat}(v:f.led.length<=100000000000)(A:List Id3->Nat->aD)(B:aD)(h:aA H (cellsA c0 [PA fb 0] 73::fltA Q fb ab f::B::F))
  (n:∀ys G H',aA H' (B::G)->aA H' (A ys 0::G))
  (y:∀ys j (u:j<ys.length) (G:List aD) (c:aC) (i:KQ),ys.Perm (aL f.led)->aA c (A ys j::G)->(∀H2,aA H2 (A ys (j+1)::G)->i (.bool true) H2)->eK Tryz.prog l [aggI3 ys[j],aggSd (jf f ys[j])] c i)
  (k:∀ys H',ys.Perm (aL f.led)->aA H' (fltA Q fb ab f::A ys ys.length::F)->K (.tuple #[]) H') :
  CF 109 #[.func (.yield l) #[] #[],PA c0 0] H K:=by
 obtain⟨x,a,fs,C,h⟩:=dr.1 (h.o [1,0,2] 3);refine cL 109 (.r (.r (.blk (.rng [.agg [.int .i64,.int .i64,.int .i64],.agg [.int .i64,.int .i64]] [none,(some .ret)] (.r .reg) (.blk (.r (.cond .no .no))))))) (h.al λb _ h=>⟨some ⟨fb,0,none⟩,h.rd 10 rfl _,⟨some ⟨x.lb,0,none⟩,h.r 1,?_⟩⟩)
 refine cM 110 28 (h.al λc1 _ h=>⟨_,_,rfl,rfl,λR e d s=>?_⟩)
 rename_i H0;have h:=h.rng R;have h:=h.o [2,5,3,13,4,6,0,14,1,7,8,9,10,11,12] 15;refine Vm (m:=f.led) (lb:=x.lb) v (λys j=>star [cellsA b [.func (.yield l) #[] #[]] 238,cellsA c0 [PA fb 0] 73,cellsA fb (fE f x ab a.length fs.length) 121,mapA aggI3 aggPt x.sm f.spans,ledA x.lb f.led,pt (H0.size+1) (.loop R),A ys j])
  (star [cellsA b [.func (.yield l) #[] #[]] 238,cellsA c0 [PA fb 0] 73,cellsA fb (fE f x ab a.length fs.length) 121,mapA aggI3 aggPt x.sm f.spans,pt (H0.size+1) (.loop R),B])
  (F:=pt H0.size (.deferred (some []))::outS x.sa x.sc a::slA 322 9 x.fa fs.length x.fc (aF iL fs)::readA x.rm f.rds::agsX Q ab f.ags 64 64::wireA Q x.wb f.w::gateA Q x.gb x.db f.g::F) ?_ ?_ ?_ ?_
 .have h:=aA.shut [_,_,_,_,_,_] (h.o [2,3,4,5,6,7,0,1,8,9,10,11,12,13,14] 15);exact h.o [1,2,0,3,4,5,6,7,8,9] 10
 .intro ys G H' h;have h:=aA.open (A:=[_,_,_,_,_,_]) (swp h);have h:=n ys _ _ (h.o [5,0,1,2,3,6,4] 7);exact aA.shut [_,_,_,_,_,_,_] (h.o [1,2,3,4,5,6,0] 7)
 .intro ys j u G c i t h D;have h:=aA.open (A:=[_,_,_,_,_,_,_]) h;refine s _ _ _ ⟨_,_,_,_,_,rfl,h.getO 5 rfl,h.al λb1 _ h=>h.st 0 rfl rfl λN h=>h.al λb2 _ h=>h.st 0 rfl rfl λL h=>⟨h.getO 7 rfl,h.stl 7 rfl λM h=>⟨_,h.r 2,_,_,_,h.q 1,_,_,h.q 0,some ⟨fb,0,none⟩,h.rd 3 rfl _,⟨_,h.r 4,_,_,_,h.q 1,_,_,h.mp_get1 mtS mE 5 rfl (x:=ys[j]),?_⟩⟩⟩⟩
  refine y ys j u _ _ _ t (h.o [8,0,1,2,3,4,5,6,7] 9) λJ h=>⟨true,rfl,(λE=>by cases E),λ_=>⟨h.getO 8 rfl,D _ ?_⟩⟩
  have h:=h.setO 8 rfl (.loop R);exact aA.shut [_,_,_,_,_,_,_] (h.o [3,4,5,6,7,8,0] 9)
 .intro ys c t h;have h:=aA.open (A:=[_,_,_,_,_,_,_]) h;refine⟨.ready,none,by decide,by rw[kT e d];exact h.getO 5 rfl,h.stl 5 rfl λI h=>.inl ⟨rfl,h.getO 7 rfl,?_⟩⟩
  have h:=h.setO 7 rfl (.deferred none);exact k ys _ t (dr.2 ⟨x,a,fs,C,h.o [2,4,3,8,9,10,11,12,13,6] 14⟩)
end
structure Ey where
 e:Et
 x:EtX
abbrev fo(y:Ey):Xb:=aY y.e y.x
theorem fF(y:Ey):(fo y).length=11:=rfl
structure EtIn(Q:aD)(e:Et)(x:EtX):Prop where
 lab:bB Q x.la (aF aZ e.labs)
 bs:bB Q x.ba (e.bs.map U8)
 by_:aP e.bs
 val:aG e.val
 keep:aG e.keep
 ll:e.labs.length<=maxLen
 bl:e.bs.length<=maxLen
structure EyK(Q:aD)(a:Xa)(xs:List Ey):Prop where
 row:bB Q a (aF fo xs)
 ins:∀y∈xs,EtIn Q y.e y.x
 len:xs.length<=maxLen
theorem EtIn.sub{Q Q':aD}{e:Et}{x:EtX}(h:EtIn Q e x)(hs:aH Q Q'):EtIn Q' e x:=⟨h.lab.sub hs,h.bs.sub hs,h.by_,h.val,h.keep,h.ll,h.bl⟩
def grY(e:Et):Bool:=decide (500<(e.bs.length:Int))||grS e.nm e.labs
def grF(c:Fcg)(xs:List Ey):Bool:=decide (250<(xs.length:Int))||grC c.o.cfg 0||xs.any λy=>grY y.e
theorem grF_of{c:Fcg}{xs:List Ey}(h:grF c xs=false):xs.length<=250/\(fcR c=true->c.o.cfg.cells.toNat<=200)/\∀y∈xs,y.e.bs.length<=500/\y.e.labs.length<=100:=by
 unfold grF at h;simp only[VN,VG,List.any_eq_false,Bool.not_eq_true]at h;refine⟨by omega,?_,λy b=>?_⟩
 .intro a;exact Ua (xs:=[]) (opt_cfg (fcR_of a).1) (by grind [grR])
 grind [grY,grS]
section
variable {F L:List aD}{H:aC}{K:KQ}{Q Q':aD}{f f0:bG}{fb i:Nat}{ab:Nat->Nat}{c:Fcg}
theorem Mw{a:Xa}{cp:Nat}{xs:List Ey}(f:EyK Q a xs)(h:aA H (Q::F))(k:∀H',aA H' (Q::F)->K (.bool (grF c xs)) H'):CF 6 #[.agg ⟨kF c⟩,.slice a xs.length cp] H K:=by
 have n:=f.len;unfold maxLen at n;refine cN 6 0x12283c921562139925283c94c [[(34,sB)],[(5,sI)],[(13,sB)]] (h.al λb _ h=>?_)
 intro Y J;refine⟨_,_,_,_,_,_,_,_,_,_,_,_,_,λ_=>h.q 0,λE=>?_,λE=>?_⟩
 .refine Uv (o:=c.o) (xs:=[]) (a:=none) (c:=0) (h.o [1,0] 2) ⟨λH F _=>fK _ _,λx f=>V0 f (by simp),λx f=>V0 f (by simp),by simp⟩ λV h=>⟨_,rfl,J _ _ ?_⟩
  have P:grG c.o []=grC c.o.cfg 0:=by simp[grG]
  have I:grF c xs=(grC c.o.cfg 0||xs.any λy=>grY y.e):=by unfold grF;grind
  rw[P];refine⟨λB=>?_,λB=>?_⟩
  .rw [I,show grC c.o.cfg 0=true from B,Bool.true_or]at k;exact k _ (h.o [0] 2)
  rw[I,show grC c.o.cfg 0=false from B,WE]at k;refine⟨λi H'=>∃j:Nat,i=j/\j<=xs.length/\(∀q (L:q<xs.length),q<j->grY xs[q].e=false)/\aA H' (Q::cellsA b (kF c) 30::F),λi H'=>xs.length-i.toNat,⟨0,rfl,VE _,λq _ h=>V0 h (by omega),h⟩,?_⟩
  rintro i H2 ⟨j,rfl,U,G,h⟩;refine⟨λM=>?_,λM=>?_⟩
  .have d:j<xs.length:=by grind
   have S:i64.wrap ((j:Int)+1)=((j+1:Nat):Int):=by grind [aJ]
   have m:=f.row.at h 0 rfl;have s:=f.ins _ (V7 d);have e1:=m.el fF d 10 (v:=.slice xs[j].x.ba xs[j].e.bs.length xs[j].x.bc) rfl;have e2:=m.el fF d 8 (v:=.string xs[j].e.nm) rfl;have e3:=m.el fF d 9 (v:=.slice xs[j].x.la xs[j].e.labs.length xs[j].x.lc) rfl;have C:bV H2 (aW a) (aT a+j*11+8) [.string xs[j].e.nm,.slice xs[j].x.la xs[j].e.labs.length xs[j].x.lc]:=⟨e2,e3⟩;intro A w;have fin:∀t H',t=grY xs[j].e->aA H' (Q::cellsA b (kF c) 30::F)->A t H':=by
    intro t H' T h;refine w _ _ ⟨λu=>?_,λu=>⟨⟨j+1,S,d,λq L N=>?_,h⟩,by grind⟩⟩
    .have:(xs.any λy=>grY y.e)=true:=List.any_eq_true.2 ⟨_,V7 d,by grind⟩
     rw[this]at k;exact k _ (h.o [0] 2)
    grind
   refine⟨⟨by omega,by omega⟩,_,_,m.some fF (by decide) d,_,_,_,e1,λ_=>⟨by omega,by omega⟩,_,_,λ_=>m.some fF (by decide) d,_,_,_,_,λ_=>C,λu=>?_,λu=>?_⟩
   .refine Am (F:=Q::cellsA b (kF c) 30::F) h (λH h=>s.lab.at h 0 rfl) s.ll λW h=>⟨_,rfl,fin _ _ ?_ h⟩
    unfold grY
    grind
   .refine fin _ _ ?_ h
    grind [grY]
  .have D:j=xs.length:=by grind
   subst D;have:(xs.any λy=>grY y.e)=false:=by
    rw[List.any_eq_false];intro y O;obtain⟨q,L,rfl⟩:=Wu O
    grind
   rw[this]at k;exact k _ (h.o [0] 2)
 .have E:decide (250<(xs.length:Int))=true:=by grind
  have:grF c xs=true:=by grind [grF]
  rw[this]at k;exact J _ _ ⟨λ_=>k _ h.tl,λR=>V0 R (by simp)⟩
end
theorem By{H0 H:aC}(h:cV H0 H):H0.size<=H.size:=by
 rcases W0 H.size H0.size with a|a
 .have:=h H.size a;rw[Array.getElem?_eq_none (VD _),Array.getElem?_eq_getElem a]at this
  cases this
 .exact a
def jg(es:List Et):Option (List UInt8):=if es.all λe=>(cO e).isSome then some (es.flatMap λe=>(cO e).getD []++[10]) else none
inductive Pe where
 | skip
 | line (e:Et)
def pj(l:List UInt8):Prop:=l=[]\/∃r,l=35::r
def PeR(l:List UInt8):Pe->Prop
 | .skip=>pj l
 | .line e=>¬pj l/\LineR l (some e)
def peE:List Pe->List Et
 | []=>[]
 | .skip::r=>peE r
 | .line e::r=>e::peE r
theorem uB(a b:List Pe):peE (a++b)=peE a++peE b:=by
 induction a with
 | nil=>rfl
 | cons x r ih=>cases x <;> simp[peE,ih]
def mJ(t:List UInt8)(es:List Et)(n err:Int):Prop:=
 (∃ps:List Pe,(cX 10 t).length=ps.length/\(∀j,∀h:j<ps.length,∀l,(cX 10 t)[j]?=some l->PeR l ps[j])/\es=peE ps/\n=0/\err=0)\/
 (∃(ps:List Pe) (l:List UInt8),(cX 10 t)[ps.length]?=some l/\(∀j,∀h:j<ps.length,∀l,(cX 10 t)[j]?=some l->PeR l ps[j])/\¬pj l/\uw l/\es=[]/\n=ps.length+1/\err=10)
structure EyL(Q:aD)(xs:List Ey):Prop where
 k:∀y∈xs,EtK Q y.e y.x
 w:∀y∈xs,EtW y.e
section
variable {F L:List aD}{H H0:aC}{K:KQ}{Q:aD}
theorem Mx{l:List UInt8}{r:Option Et}(g:Gl Q)(a:l.length<=900000000)(d:LineR l r)(h:aA H (Q::F))
  (k:∀Q' ex H',aH Q Q'->EtK Q' (r.getD et0) ex->aA H' (Q'::F)->K (.tuple #[.agg ⟨aY (r.getD et0) ex⟩,.bool r.isSome]) H') :
  CF 12 #[.string (bL l)] H K:=by
 refine cM 12 28 (h.al λb _ h=>?_)
 refine xw (h.o [1,0] 2) λQ' mb ms e hs hm h=>⟨_,rfl,?_⟩
 refine Bw (g.sub hs) hm a d h λQ2 ex H2 s2 c h=>⟨_,_,_,_,_,_,_,_,_,_,_,_,_,_,_,_,rfl,h.st 2 rfl rfl λf h=>⟨_,_,_,_,_,_,_,_,_,_,_,_,_,_,_,h.q 2,?_⟩⟩
 exact k Q2 ex _ (hs.trans s2) c (h.o [1] 3)
theorem uC{e:Et}{l:List UInt8}(t:EtW e)(h:cO e=some l):l.length<=50000:=by
 obtain⟨w,fs,a⟩:=Bo h;have u:=uy (c:=32) (n:=9000) (xs:=fk e w fs) λx f=>by
  rcases V9.1 f with rfl|f
  .have:=(ux a.form).2;omega
  .obtain⟨d,b,rfl⟩:=V8.1 f;refine Mg t λo l m s=>?_
   subst s;obtain⟨n,j⟩:=qE a.form;have key:∀n:_root_.Fin 12,(match fi (n.val:Int) with|some (_,fs)=>fs.all (λd=>match d with|.whole o _ _=>decide (1<=o)&&decide (o<=6)|_=>true)|none=>true)=true:=by decide
   have i:=key n;rw[<-j,a.form]at i;have:=VK.1 i _ b;simpa using this
 have k:(fk e w fs).length<=5:=by have:=(ux a.form).1;simp[fk];omega
 rw[a.eq];have:9001*(fk e w fs).length<=9001*5:=Wy _ k;omega
theorem Bz{α β:Type}{f:α->List β}{n:Nat}:∀{l:List α},(∀x∈l,(f x).length<=n)->(l.flatMap f).length<=n*l.length
 | [],_=>by simp
 | x::r,h=>by
  have c:=Bz (f:=f) (l:=r) λy a=>h y (VF _ a)
  have b:=h x (by simp);rw[Wo,V6,VA,Nat.mul_succ];omega
theorem My{a:Xa}{c:Nat}{xs:List Ey}(g:Gl Q)(hx:bB Q a (aF fo xs))(N:EyL Q xs)(Y:xs.length<=1000)(G:aH (old H0) Q)(h:aA H (Q::F))
  (k:∀H',cV H0 H'->K (.tuple #[.string (bL ((jg (xs.map Ey.e)).getD [])),.bool (jg (xs.map Ey.e)).isSome]) H') :
  CF 8 #[.slice a xs.length c] H K:=by
 refine cN 8 0x1112156123992511d144c [[(13,sI)]] ?_;refine xw h λQ' mb ms P hs hm h=>⟨_,rfl,?_⟩
 have R:=nD (G.trans hs) (h.o [1,0] 2);rintro b H2 rfl rfl;have h:=h.push (.cells #[.pointer none,.slice none 0 0] 61);have h:=Ml (B:=P.size) (VD _) h;have h:=h.o [1,2,0] 3;obtain⟨es,t⟩:∃es,xs.map Ey.e=es:=⟨_,rfl⟩;have h0:es.length=xs.length:=by rw[<-t];simp
 rw[t]at k;refine⟨λi H'=>∃(j:Nat) (Q2:aD),i=j/\j<=xs.length/\aH Q' Q2/\(∀e∈es.take j,(cO e).isSome=true)/\aA H' (mapA I64ZZ encFm mb ms::Q2::bldA P.size P.size ((es.take j).flatMap λe=>(cO e).getD []++[10])::F),
  λi _=>xs.length-i.toNat,⟨0,Q',rfl,VE _,aH.refl Q',(by simp),h⟩,?_⟩
 clear h
 rintro i H3 ⟨j,Q2,rfl,hj,v,m,h⟩;have d:=hs.trans v;have J:=nD (G.trans d) (h.o [1,0,2] 3);refine⟨λM=>?_,λM=>?_⟩
 .have n:j<xs.length:=by grind
  have s:j<es.length:=by omega
  have hw:i64.wrap ((j:Int)+1)=((j+1:Nat):Int):=by grind [aJ]
  have V:=(hx.sub d).at h 1 rfl;have Z:es[j]=xs[j].e:=by subst t;simp
  refine⟨⟨by omega,by omega⟩,_,_,V.some fF (by decide) n,_,_,_,_,_,_,_,_,_,_,_,_,_,_,_,V.els fF n,h.al λb5 _ h=>h.st 0 rfl rfl λH5 h=>⟨_,_,_,_,_,_,_,_,_,_,_,_,_,_,_,h.q 0,?_⟩⟩
  have D:=N.w _ (V7 n);have L:=(N.k _ (V7 n)).sub d;refine Mh (e:=xs[j].e) (ex:=xs[j].x) (g.sub d) (hm.sub v) D L (h.o [1,2,3,0] 4) λQ3 H6 E h=>?_
  have O:=nD (G.trans (d.trans E)) (h.o [1,0,2,3] 4);have C:es.take (j+1)=es.take j++[xs[j].e]:=by rw[We,List.getElem?_eq_getElem s,Wj,Z]
  cases hl:cO xs[j].e with
  | none=>
   refine⟨_,_,rfl,λ_=>?_,λA=>V0 A (by simp)⟩
   have Y:jg es=none:=by
    unfold jg;rw[Vz];intro A;have:=VK.1 A es[j] (V7 s);rw[Z,hl]at this;cases this
   rw[Y]at k;exact k _ O
  | some l=>
   refine⟨_,_,rfl,λA=>V0 A (by simp),λ_=>?_⟩
   have W:=uC D hl;have h1:((es.take j).flatMap λe=>(cO e).getD []++[10]).length<=50001*(es.take j).length:=Bz λe f=>by
    rw[V6];have hv:EtW e:=by
     subst t;obtain⟨y,S,rfl⟩:=V8.1 (Ww f);exact N.w y S
    cases s:cO e with
    | none=>show 0+1<=_;omega
    | some l=>have:=uC hv s;show l.length+1<=_;omega
   have U:50001*(es.take j).length<=50001*1000:=Wy _ (by rw[W7];omega);refine Mp (by show _+l.length<=_;omega) (h.o [2,0,1] 4) λH7 h=>⟨_,_,rfl,?_⟩
   refine Mq (x:=10) (by simp only[V6];show _+l.length+1<=_;omega) h λH8 h=>⟨_,rfl,?_⟩
   refine⟨⟨j+1,Q3,hw,n,v.trans E,?_,?_⟩,by grind⟩
   .rw [C];intro e f
    rcases VJ.1 f with f|f
    .exact m e f
    .obtain rfl:=VH.1 f;rw[hl];rfl
   .rw [C,List.flatMap_append,List.flatMap_singleton,hl];have h:=h.o [1,2,0] 3;rw[VX]at h;exact h
 .have T:j=es.length:=by grind
  rw[T,VO]at m h;have u:jg es=some (es.flatMap λe=>(cO e).getD []++[10]):=by
   unfold jg;rw[V1 (VK.2 m)]
  rw[u]at k;exact Mr (By R) J (h.o [2,0,1] 3) λH9 I _=>⟨_,rfl,k _ I⟩
end
theorem xy{c:UInt8}:∀{l x:List UInt8},x∈cX c l->x.length<=l.length
 | [],x,h=>by simp[cX]at h;simp[h]
 | b::r,x,h=>by
  unfold cX at h
  split at h
  .rcases V9.1 h with rfl|h
   .simp
   .have:=xy h;simp;omega
  .split at h
   .next e=>exact V0 e (LE c r)
   .next hd t e=>
    rcases V9.1 h with rfl|h
    .have:=xy (c:=c) (l:=r) (x:=hd) (by rw[e];simp);simp;omega
    .have:=xy (c:=c) (l:=r) (x:=x) (by rw[e];simp[h]);simp;omega
theorem Mz(l:List UInt8):((bL l).toList == (⟨#[]⟩:Eq).toList)=decide (l=[]):=by
 rw[Wd,beq_iff_eq,V5,ByteArray.toList_eq,ByteArray.toList_eq]
theorem M0(l:List UInt8):(((bL l).toList == (⟨#[]⟩:Eq).toList)||decide (bAt (bL l) 0=35))=true↔pj l:=by
 rw[Mz,VY,V5,V5]
 cases l with
 | nil=>simp[pj]
 | cons c r=>
  have e:bAt (bL (c::r)) 0=(c.toNat:Int):=rfl;rw[e]
  constructor
  .rintro (h|h)
   .cases h
   .refine .inr ⟨r,?_⟩;have:c=35:=UInt8.toNat_inj.1 (by simpa using Int.ofNat.inj h);rw[this]
  .rintro (h|⟨a,h⟩)
   .cases h
   .simp only[List.cons.injEq]at h;rw[h.1];exact .inr rfl
section
variable {F L:List aD}{H H0:aC}{K:KQ}{Q:aD}
theorem su{t:List UInt8}{es:List Et}{n B:Int}(g:Gl Q)(ht:t.length<=900000000)(hr:mJ t es n B)(h:aA H (Q::F))
  (k:∀Q' a c ys H',aH Q Q'->ys.map Ey.e=es->(∀y∈ys,EtK Q' y.e y.x)->aA H' (slA 40 11 a ys.length c (aF fo ys)::Q'::F)->K (.tuple #[.slice a ys.length c,I64ZZ n,I64ZZ B]) H') :
  CF 10 #[.string (bL t)] H K:=by
 have h5:SlT Tryz.prog 22 40 11 128:=eG (by kernel_rfl);obtain⟨ws,E⟩:∃ws,cX 10 t=ws:=⟨_,rfl⟩;have h8:ws.length<=t.length+1:=by rw[<-E];exact Bv
 refine cN 10 0x1112156123992a1213991d44c [[(6,sS)],[(6,sS),(15,sI)]] ?_;refine xw h λQ' mb ms H1 hs hm h=>⟨_,rfl,?_⟩
 refine LQ (s:=bL t) (by show t.toArray.size<=_;simp;omega) (g.sub hs) (h.o [1,0] 2) λsb H2 h=>?_
 rw[jc,E]at h ⊢;obtain⟨ps,P,f⟩:∃ps:List Pe,(∀j,∀h:j<ps.length,∀l,ws[j]?=some l->PeR l ps[j])/\
   ((ws.length=ps.length/\es=peE ps/\n=0/\B=0)\/∃l,ws[ps.length]?=some l/\¬pj l/\uw l/\es=[]/\n=ps.length+1/\B=10):=by
  unfold mJ at hr;rw[E]at hr
  rcases hr with ⟨ps,d,V,S⟩|⟨ps,l,d,V,S⟩
  .exact⟨ps,V,.inl ⟨d,S⟩⟩
  .exact⟨ps,V,.inr ⟨l,d,S⟩⟩
 have h6:ps.length<=ws.length:=by
  rcases f with ⟨d,-⟩|⟨l,d,-⟩
  .omega
  .have:=(List.getElem?_eq_some_iff.1 d).1;omega
 have h:=aA.sl_nil (h.o [1,2,0] 3) 40 11;refine⟨_,_,_,rfl,?_⟩;refine⟨λla ln lc i H'=>∃(j:Nat) (Q2:aD) (ys:List Ey),i=j/\j<=ps.length/\ln=ys.length/\ys.length<=j/\aH Q' Q2/\ys.map Ey.e=peE (ps.take j)/\(∀y∈ys,EtK Q2 y.e y.x)/\
   aA H' (slA 40 11 la ys.length lc (aF fo ys)::Q2::mapA I64ZZ encFm mb ms::cellsA sb (ws.map λx=>.string (bL x)) 9::F),
  λ_ _ _ i _=>ws.length-i.toNat,⟨0,Q',[],rfl,VE _,rfl,VE _,aH.refl Q',rfl,(by simp),h⟩,?_⟩
 clear h
 rintro la ln lc i H3 ⟨j,Q2,ys,rfl,W,rfl,h9,v,C,J,h⟩;have u:=hs.trans v;refine⟨λhx=>?_,λhx=>?_⟩
 .have M:j<ws.length:=by grind
  have hw:i64.wrap ((j:Int)+1)=((j+1:Nat):Int):=by grind [aJ]
  have h4:=h.ce_rd 3 rfl;have w:=(h4.at M).2;have O:=V7 M;have U:ws[j].length<=t.length:=xy (by rw[E];exact O);obtain⟨l,hl⟩:∃l,ws[j]=l:=⟨_,rfl⟩;rw[hl]at w U;have D:ws[j]?=some l:=by rw[List.getElem?_eq_getElem M,hl]
  intro Jn hJ;refine⟨⟨by omega,by omega⟩,_,_,rfl,_,w,λA=>?_,λA=>?_,λA=>?_⟩
  .rw [Mz,VG]at A;have R:=WT.2 A;have:(bL l).size=l.length:=by show l.toArray.size=_;simp
   omega
  .have G:=(M0 l).1 A;have b:j<ps.length:=by
    rcases f with ⟨d,-⟩|⟨l',d,V,-⟩
    .omega
    .rcases Nat.lt_or_eq_of_le W with W|rfl
     .exact W
     .rw [D]at d;cases d;exact V0 G V
   have N:ps[j]=.skip:=by
    have:=P j b l D
    cases R:ps[j] with
    | skip=>rfl
    | line e=>rw[R]at this;exact V0 G this.1
   refine hJ _ _ _ _ ⟨⟨j+1,Q2,ys,hw,b,rfl,by omega,v,?_,J,h⟩,by grind⟩;rw[We,List.getElem?_eq_getElem b,Wj,uB,N,C];simp[peE]
  .have G:¬pj l:=λL=>Bool.noConfusion (((M0 l).2 L).symm.trans A)
   have h:=h.o [2,1,0,3] 4
   rcases Nat.lt_or_eq_of_le W with b|b
   .obtain⟨e,N,Z⟩:∃e,ps[j]=.line e/\LineR l (some e):=by
     have:=P j b l D
     cases R:ps[j] with
     | skip=>rw[R]at this;exact V0 this G
     | line e=>rw[R]at this;exact⟨e,rfl,this.2⟩
    refine Bw (g.sub u) (hm.sub v) (by omega) Z h λY ex H4 I L h=>⟨_,_,_,_,_,_,_,_,_,_,_,_,_,_,_,_,rfl,h.al λb1 _ h=>h.st 0 rfl rfl λH5 h=>⟨λA=>V0 A (by simp),λ_=>⟨_,_,_,_,_,_,_,_,_,_,_,_,_,_,_,h.q 0,h.al λb2 _ h=>?_⟩⟩⟩
    refine aA.append (m:=1) h5 h 4 rfl (h.ce_rd 0 rfl) rfl rfl (by omega) (by omega) λa' c' H6 h=>⟨_,_,_,rfl,hJ _ _ _ _ ⟨⟨j+1,Y,ys++[⟨e,ex⟩],hw,b,by simp,by simp;omega,v.trans I,?_,λy T=>?_,?_⟩,by grind⟩⟩
    .rw [We,List.getElem?_eq_getElem b,Wj,uB,N,VS,C];rfl
    .rcases VJ.1 T with T|T
     .exact (J y T).sub I
     .obtain rfl:=VH.1 T;exact L
    .rw [gx,V6];exact h.o [4,3,2,5] 6
   .rcases f with ⟨d,-⟩|⟨l',d,-,S,rfl,rfl,rfl⟩
    .omega
    .rw [<-b,D]at d
     cases d
     refine Bw (g.sub u) (hm.sub v) (by omega) (.inr ⟨rfl,S⟩) h λY ex H4 I L h=>⟨_,_,_,_,_,_,_,_,_,_,_,_,_,_,_,_,rfl,h.al λb1 _ h=>h.st 0 rfl rfl λH5 h=>⟨λ_=>?_,λA=>V0 A (by simp)⟩⟩
     have h:=aA.sl_nil (h.o [2] 5) 40 11;have L:=k Y none 0 [] _ (u.trans I) rfl (by simp) h;have e:((ps.length:Int)+1)=i64.wrap ((j:Int)+1):=by rw[hw,b];rfl
     rw[e]at L;exact L
 .have h7:j=ws.length:=by grind
  rcases f with ⟨d,rfl,rfl,rfl⟩|⟨l',d,-⟩
  .have h0:ps.take j=ps:=VM (by omega);rw[h0]at C;exact k Q2 la lc ys _ u C J (h.o [0,1] 4)
  .have:=(List.getElem?_eq_some_iff.1 d).1;omega
end
def xz(r:Int):List UInt8:=aR ((reasonL[r.toNat]?).getD ⟨#[]⟩)
abbrev iv(ws:List (List UInt8)):List UInt8:=Go.Lib.join ws [32]++[10]
def kG(i:Id3)(s:Vd×Pt):List (List UInt8):=[Go.Lib.itoa i.ag,Go.Lib.itoa i.ep,Go.Lib.itoa i.sq,xz s.1.re,Go.Lib.itoa s.1.win,Go.Lib.itoa s.2.1,Go.Lib.itoa s.2.2]
def oz(n:Int)(x:Fq)(c:Cl):List (List UInt8):=[[101,109,105,116],Go.Lib.itoa n,Go.Lib.itoa x.win,aR (dv x.sn x.sl),Go.Lib.itoa c.n,[55],Go.Lib.itoa c.mn,Go.Lib.itoa c.mx,Go.Lib.itoa c.cer,Go.Lib.itoa c.pos]
structure VerOk(i:Id3)(s:Vd×Pt):Prop where
 a:aG i.ag
 e:aG i.ep
 q:aG i.sq
 r:0<=s.1.re/\s.1.re<=6
 w:aG s.1.win
 l:aG s.2.1
 h:aG s.2.2
structure EmitOk(x:Fq)(c:Cl):Prop where
 w:aG x.win
 n:aG c.n
 s:whi c.sum=0/\wlo c.sum=7
 l:aG c.mn
 h:aG c.mx
 ce:aG c.cer
 p:aG c.pos
 labs:x.sl.length<=1000000
section
variable {F L:List aD}{H H0:aC}{K:KQ}{Q Q':aD}{f:bG}{fb b B:Nat}{ab:Nat->Nat}{l:List UInt8}
theorem l7{v:Int}(a:aG v)(g:Gl Q)(h:aA H (Q::F))(k:∀H',aA H' (Q::F)->K (.string (bL (Go.Lib.itoa v))) H'):CF 58 #[I64ZZ v] H K:=by
 refine cM 58 28 (Bp a g h λb h=>⟨_,rfl,k _ h⟩)
theorem FmtU7(h:aA H F)(k:K (.string (bL [55])) H):CF 125 #[.int .u64 7,I64ZZ 10] H K:=by
 refine cM 125 28 ?_;refine cM 203 19876321282332 ⟨λ_=>⟨λ_=>?_,λa=>V0 a (by decide)⟩,λa=>V0 a (by decide)⟩
 refine cM 207 476 ⟨λ_=>⟨?_,?_⟩,λa=>V0 a (by decide)⟩
 .decide
 .exact⟨_,rfl,_,rfl,k⟩
theorem WText7(h:aA H F)(k:∀H',aA H' F->K (.string (bL [55])) H'):CF 64 #[.agg ⟨[I64ZZ 0,.int .u64 7]⟩] H K:=by
 refine cN 64 4804964942683420 [[(3,sT),(4,sU),(5,sU)]] (h.al λb0 c h=>⟨_,h.r 0,_,h.r 0,_,h.r 0,?_⟩)
 intro d b;refine⟨λa=>V0 a (by decide),λ_=>b _ _ _ _ ?_⟩
 refine EL (hi:=0) (lo:=7) (y:=10000000000000000000) (by decide) (by decide) (by decide) ⟨_,_,rfl,?_⟩;refine FmtU7 h ⟨_,rfl,λ_=>⟨by decide,?_⟩,λa=>V0 a (by decide)⟩
 exact k _ h.tl
theorem M1{ws:List (List UInt8)}{n d:Nat}(a:ws.length=n)(f:0<n)(e:n<=1000)(m:l.length+(iv ws).length<=100000000)(h:aA H (cellsA d (ws.map λs=>.string (bL s)) 9::bldA B b l::F))(k:∀H',aA H' (bldA B b (l++iv ws)::F)->K (.tuple #[]) H') :
  CF 56 #[.slice (some ⟨d,0,none⟩) n n,PA b 0] H K:=by
 have c:(iv ws).length=(Go.Lib.join ws [32]).length+1:=by simp[iv]
 refine cM 56 20 ?_;refine Mf (d:=32) a h (h.ce_rd 0 rfl) f (by omega) (VD _) (by omega) λj h=>⟨_,rfl,?_⟩
 refine Mp (by omega) h.tl λH2 h=>⟨_,_,rfl,?_⟩
 refine Mq (x:=10) (by rw[V6];omega) h λi h=>⟨_,rfl,k _ ?_⟩
 rw[VX]at h;exact h
theorem one_lt:1-(i64.wrap (((0:Nat):Int)+1)).toNat<1-(((0:Nat):Int)).toNat:=by decide
theorem LText'{name:Eq}{a:Xa}{c:Nat}{labs:List bg}(h:aA H F)(b:∀H,aA H F->aN H a (aF aZ labs))
  (k:∀H',aA H' F->K (.string (bL (aR (dv name labs)))) H'):CF 63 #[.agg #[.string name,.slice a labs.length c]] H K:=
 zo h b λd h=>by have:=k d h;rw[jW]at this;exact this
theorem qJ{r:Int}(c:0<=r/\r<=6)(g:Gl Q)(h:aA H (Q::F)):aM H 0 (0+r.toNat)=some (.string (bL (xz r))):=by
 obtain⟨t,b,a⟩:=g.rs _ _ h;unfold aM xz;rw[a,jW];have:r=0\/r=1\/r=2\/r=3\/r=4\/r=5\/r=6:=by omega
 rcases this with rfl|rfl|rfl|rfl|rfl|rfl|rfl <;> rfl
theorem M3(i:Id3)(s:Vd×Pt)(b:VerOk i s):(iv (kG i s)).length<=1000:=by
 have hi:∀v:Int,aG v->(Go.Lib.itoa v).length<=21:=λv h=>Go.Lib.itoa_length_le v h.1 h.2
 have j:(xz s.1.re).length<=21:=by
  obtain⟨k,m⟩:=b.r;have:s.1.re=0\/s.1.re=1\/s.1.re=2\/s.1.re=3\/s.1.re=4\/s.1.re=5\/s.1.re=6:=by omega
  rcases this with h|h|h|h|h|h|h <;> rw[h] <;> decide
 have f:=uy (c:=32) (n:=21) (xs:=kG i s) λx d=>by
  simp only[kG,V9,WB,or_false]at d
  rcases d with rfl|rfl|rfl|rfl|rfl|rfl|rfl
  .exact hi _ b.a
  .exact hi _ b.e
  .exact hi _ b.q
  .exact j
  .exact hi _ b.w
  .exact hi _ b.l
  .exact hi _ b.h
 have:(kG i s).length=7:=rfl;rw[this]at f;show (Go.Lib.join _ _++[10]).length<=_;rw[V6];simp;omega
theorem Vo{i:Id3}{bs:List Int}{x:Fq}{c:Cl}(g:Gl Q)(hk:aL f.led=[i])(t:VerOk i (jf f i))(hs:f.sink=[bs])(hb:aP bs)(j1:bs.length<=1000000)(hd:gr bs=.ok x)(hdl:x.data.length<=1000000)(h6:aP x.data)(Z:rO x.data=(c,0))(u:EmitOk x c)
  (hQ:aH (old H0) Q) (h:aA H (Q::fltA Q fb ab f::F))
  (k:∀H',cV H0 H'->K (.string (bL (iv (kG i (jf f i))++iv (oz 0 x c)))) H'):CF 28 #[PA fb 0] H K:=by
 have h5:=nD hQ h;refine cL 28 (.r (.r (.r (.seq (.r (.blk (.rng [.agg [.int .i64,.int .i64,.int .i64],.agg [.int .i64,.int .i64,.int .i64,.int .i64]] [none] (.r .reg) (.blk .reg)))) (.seq (.r (.blk (.loop [(50,sI)] (.r (.seq (.cond .no .no) (.seq (.blk (.r (.r (.r .reg)))) .reg)))))) (.r .no)))))) ?_;rintro b H1 rfl rfl;have h:=h.push (.cells #[.pointer none,.slice none 0 0] 61);have h:=Ml (B:=H.size) (VD _) h;refine h.al λcb _ h=>h.st 0 rfl rfl λH2 h=>?_
 have h:aA H2 (cellsA cb [fv 56 [PA H.size 0]] 132::bldA H.size H.size []::Q::fltA Q fb ab f::F):=h;refine cM 57 28 (h.al λc1 _ h=>⟨_,_,rfl,rfl,λR j3 h0 l4=>?_⟩)
 rename_i E;have u8:H.size<E.size:=by
  obtain⟨p,a,c,-,-,h2⟩:=qI.1 (h.o [2,0,1,3] 4);exact uA h2
 have Y:=nD hQ (h.o [3,0,1,2] 4);have h:=h.rng R;have h1:=aA.shut [_,_,_,_] (h.o [3,4,5,0,2,6,1] 7);refine Vn (f:=f) (by have:=congrArg List.length hk;simp[aL]at this;omega) (λys q=>star [cellsA cb [fv 56 [PA H.size 0]] 132,bldA H.size H.size ((ys.take q).flatMap λi=>iv (kG i (jf f i))),Q,pt (E.size+1) (.loop R)])
  (star [cellsA cb [fv 56 [PA H.size 0]] 132,bldA H.size H.size [],Q,pt (E.size+1) (.loop R)]) (h1.o [1,2,0,3] 4) (λys G H' h=>h) ?_ ?_
 .intro ks q hq G1 Hx K1 N h kt;have h:=aA.open (A:=[_,_,_,_]) h;rw[hk]at N;obtain rfl:ks=[i]:=List.perm_singleton.1 N;obtain rfl:q=0:=by simp at hq;omega
  have S:=M3 i (jf f i) t;refine l4 _ _ _ ⟨_,_,_,_,_,_,_,rfl,h.getO 3 rfl,h.al λb4 _ h=>h.st 0 rfl rfl λH2 h=>h.al λb5 _ h=>h.st 0 rfl rfl λH3 h=>⟨h.getO 5 rfl,h.stl 5 rfl λH4 h=>?_⟩⟩
  have h:=h.o [4,0,1,2,3,5] 6;have h:aA H4 (Q::cellsA b5 (encSd (jf f i)) 142::cellsA b4 (kE i) 136::cellsA cb [fv 56 [PA H.size 0]] 132::bldA H.size H.size []::pt (E.size+1) (.loop { R with state:=.busy })::G1):=h;refine⟨fv 56 [PA H.size 0],h.r 3,_,h.r 2,_,h.r 2,_,h.r 2,_,h.rd 1 rfl _,⟨t.r.1,by have:=t.r.2;omega⟩,_,qJ t.r g h,_,h.r 1,_,h.r 1,_,h.r 1,?_⟩;refine l7 t.a g h λH5 h=>⟨_,rfl,h.r 1,h.r 1,h.r 1,qJ t.r g h,h.r 1,h.r 2,h.r 2,h.r 3,?_⟩
  refine l7 t.e g h λH6 h=>⟨_,rfl,h.r 1,h.r 1,h.r 1,qJ t.r g h,h.r 1,h.r 2,h.r 3,?_⟩
  refine l7 t.q g h λH7 h=>⟨_,rfl,h.r 1,h.r 1,h.r 1,qJ t.r g h,h.r 1,h.r 3,?_⟩
  refine l7 t.w g h λH8 h=>⟨_,rfl,h.r 1,h.r 1,qJ t.r g h,h.r 1,h.r 3,?_⟩
  refine l7 t.l g h λH9 h=>⟨_,rfl,h.r 1,qJ t.r g h,h.r 1,h.r 3,?_⟩
  refine l7 t.h g h λh4 h=>⟨_,rfl,qJ t.r g h,h.r 1,h.r 3,h.al λd h9 h=>⟨h.r 4,rfl,?_⟩⟩
  refine M1 (ws:=kG i (jf f i)) rfl (by decide) (by decide) (by simp only[VV];omega) (h.o [0,5,1,4,6] 7) λh7 h=>⟨rfl,h.getO 3 rfl,kt _ ?_⟩
  have h:=h.setO 3 rfl (.loop R);rw[VZ,<-VQ (iv (kG i (jf f i)))]at h;exact aA.shut [_,_,_,_] (h.o [2,0,1,3] 4)
 .intro ks H7 N h;rw[hk]at N;obtain rfl:ks=[i]:=List.perm_singleton.1 N;have h:=aA.open (A:=[_,_,_,_]) (swp h);have h:aA H7 (cellsA cb [fv 56 [PA H.size 0]] 132::bldA H.size H.size (iv (kG i (jf f i))++[])::Q::pt (E.size+1) (.loop R)::fltA Q fb ab f::pt E.size (.deferred (some []))::F):=h;rw[VQ]at h;have S:=M3 i (jf f i) t;refine⟨.ready,none,by decide,by rw[kT j3 h0];exact h.getO 3 rfl,h.stl 3 rfl λH8 h=>⟨rfl,?_⟩⟩
  refine Vj (by rw[hs];intro b l3;obtain rfl:=VH.1 l3;exact j1) (by rw[hs];simp) (h.o [2,4,1,0,5] 6) λQ2 ys a2 c2 H9 M P l1 l0 h=>⟨_,_,_,rfl,?_⟩
  have y2:ys.length=1:=by have:=congrArg List.length P;rw[hs]at this;simpa using this
  have l6:(iv (oz 0 x c)).length<=60000:=by
   have hi:∀v:Int,aG v->(Go.Lib.itoa v).length<=5000:=λv h=>by have:=Go.Lib.itoa_length_le v h.1 h.2;omega
   have hj:=uy (c:=32) (n:=5000) (xs:=oz 0 x c) λz hz=>by
    simp only[oz,V9,WB,or_false]at hz
    rcases hz with rfl|rfl|rfl|rfl|rfl|rfl|rfl|rfl|rfl|rfl
    .decide
    .exact hi 0 (by decide)
    .exact hi _ u.w
    .rw [ko];exact Br
    .exact hi _ u.n
    .decide
    .exact hi _ u.l
    .exact hi _ u.h
    .exact hi _ u.ce
    .exact hi _ u.p
   have:(oz 0 x c).length=10:=rfl;rw[this]at hj;show (Go.Lib.join _ _++[10]).length<=_;rw[V6];simp;omega
  refine⟨λV H'=>∃(j:Nat) (Q':aD),V=j/\j<=1/\aH Q2 Q'/\aA H' (Q'::outS a2 c2 ys::bldA H.size H.size (iv (kG i (jf f i))++(if j=0 then [] else iv (oz 0 x c)))::cellsA cb [fv 56 [PA H.size 0]] 132::pt E.size (.deferred (some []))::F),
   λV _=>1-V.toNat,⟨0,Q2,rfl,by omega,aH.refl Q2,?_⟩,?_⟩
  .rw [V1 rfl,VQ];exact h.o [0,1,3,4,5] 6
  clear h
  rintro V h4 ⟨j,Q3,rfl,hj,D,h⟩;refine⟨λhx=>?_,λhx=>?_⟩
  .have C:j<ys.length:=by grind
   obtain rfl:j=0:=by omega
   rw[V1 rfl,VQ]at h;have l5:=h.sl_rd 1 rfl;have I:=l5.at C;have h3:=(l1 _ (V7 C)).sub D;have T:ys[0].bs=bs:=by
    have:(ys.map Fy.bs)[0]?=some bs:=by rw[P,hs];rfl
    rw[List.getElem?_map,List.getElem?_eq_getElem C]at this;exact Option.some.inj this
   refine⟨⟨by omega,by omega⟩,_,_,I.1,_,_,_,I.2,?_⟩;refine AH h (λH h=>h3.at h 0 rfl) (by rw[T];exact hb) (l0 _ (V7 C)) ?_
   rw[T,hd];intro Q4 y evs h9 O hev hla hsh j2 l2 h;refine⟨_,_,_,_,_,_,_,_,_,_,_,_,_,_,_,_,_,_,_,_,_,rfl,h.al λb6 _ h=>h.st 0 rfl rfl λh7 h=>⟨_,_,_,h.r 0,?_⟩⟩
   have g4:=((g.sub M).sub D).sub O;refine Rt rfl h6 h (λH h=>l2.at h 1 rfl) (by omega) λH13 h=>?_
   rw[Z];refine⟨_,_,_,_,_,_,_,_,_,rfl,h.al λb7 _ h=>h.sta 0 rfl rfl λW h=>?_⟩
   have h:aA W (cellsA b7 (dm c) 159::cellsA b6 (cD x y) 150::Q4::slA 258 4 y.ea evs.length y.ec (aF bT evs)::outS a2 c2 ys::bldA H.size H.size (iv (kG i (jf f i)))::cellsA cb [fv 56 [PA H.size 0]] 132::pt E.size (.deferred (some []))::F):=h;have h:=h.o [2,0,1,3,4,5,6,7] 8;have m:∀{H:aC} {L:List aD},aA H L->aS 1 L=cellsA b7 (dm c) 159->bV H b7 1 [I64ZZ 0,.int .u64 7]:=λh e=>
    ⟨(h.rd 1 e 1).trans (by show some (I64ZZ (whi c.sum))=_;rw[u.s.1]),(h.rd 1 e 2).trans (by show some (Value.int .u64 (wlo c.sum))=_;rw[u.s.2])⟩
   refine⟨fv 56 [PA H.size 0],h.r 6,_,h.r 2,_,_,_,_,⟨h.r 2,aA.rd h 2 rfl _⟩,_,h.r 1,(0:Int),(7:Int),m h rfl,_,h.r 1,_,h.r 1,_,h.r 1,_,h.r 1,?_⟩;refine LX (v:=((0:Nat):Int)) (by decide) g4 h λh8 h=>⟨_,rfl,h.r 1,h.r 1,h.r 1,h.r 1,m h rfl,h.rd 1 rfl _,⟨h.r 2,aA.rd h 2 rfl _⟩,h.r 2,h.r 6,?_⟩
   refine l7 u.w g4 h λH16 h=>⟨_,rfl,h.r 1,h.r 1,h.r 1,h.r 1,m h rfl,h.rd 1 rfl _,⟨h.r 2,aA.rd h 2 rfl _⟩,h.r 6,?_⟩
   refine LText' h (λH h=>j2.at h 0 rfl) λH17 h=>⟨_,rfl,h.r 1,h.r 1,h.r 1,h.r 1,m h rfl,h.r 1,h.r 6,?_⟩
   refine l7 u.n g4 h λH18 h=>⟨_,rfl,h.r 1,h.r 1,h.r 1,h.r 1,m h rfl,h.r 6,?_⟩
   refine WText7 h λy3 h=>⟨_,rfl,h.r 1,h.r 1,h.r 1,h.r 1,h.r 6,?_⟩
   refine l7 u.l g4 h λH20 h=>⟨_,rfl,h.r 1,h.r 1,h.r 1,h.r 6,?_⟩
   refine l7 u.h g4 h λH21 h=>⟨_,rfl,h.r 1,h.r 1,h.r 6,?_⟩
   refine l7 u.ce g4 h λH22 h=>⟨_,rfl,h.r 1,h.r 6,?_⟩
   refine l7 u.p g4 h λr6 h=>⟨_,rfl,h.r 6,h.al λd H24 h=>⟨h.r 7,rfl,?_⟩⟩
   refine M1 (ws:=oz 0 x c) rfl (by decide) (by decide) (by omega) (h.o [0,6,1,5,7,8] 9) λH25 h=>⟨rfl,⟨1,Q4,rfl,by omega,D.trans O,?_⟩,one_lt⟩
   rw[Vz (by decide)];exact h.o [1,2,0,3,4] 5
  .obtain rfl:j=1:=by have:=V2 hx;omega
   rw[Vz (by decide)]at h;have U:=nD ((hQ.trans M).trans D) h;refine Mr (By h5) U (h.o [2] 5) λh8 J ho=>⟨_,rfl,?_,?_⟩
   .exact ho _ _ (h.getO 4 rfl) (by omega) (λ_ _ Z=>by cases Z)
   .have r0:=By Y;exact k _ λi hi=>by rw[Array.getElem?_setIfInBounds,nO];exact J i hi
end
section
variable {F L:List aD}{H:aC}{K:KQ}{Q Q':aD}{f f0:bG}{fb i j cb:Nat}{ab:Nat->Nat}{g:Ag}
def mK(f:bG):List Et->bG×List Int
 | []=>(f,[])
 | e::es=>((mK (doF f e (f,0)).1 es).1,(doF f e (f,0)).2::(mK (doF f e (f,0)).1 es).2)
end
namespace Fa
def c0:Fcg:=⟨⟨Al.c0,20,8,256,5⟩,20,60⟩
def F0:bG:=newF c0 (newG c0)
theorem e5:fcR c0=true:=by kernel_rfl
end Fa
def RS1(s s':aV):Prop:=s'=s\/∃r:Rp,s'=(cH s r).1/\∀e∈r.evs,aG e.value
theorem RS1.rch{s s':aV}(h:RS1 s s')(R:Rch s):Rch s':=by
 rcases h with rfl|⟨r,rfl,a⟩
 .exact R
 .exact Ll R a
theorem xA{g:Gg}{r:Rp}(a:∀e∈r.evs,aG e.value):RS1 g.s (di g r).1.s:=by
 unfold di
 split
 .exact .inl rfl
 .exact .inr ⟨r,rfl,a⟩
theorem Vp(f:Fq)(a n x:Int):(jX f a n x).evs=f.evs\/(jX f a n x).evs=[]:=by
 unfold jX
 grind
theorem take_rs{g:Gg}{a n:Int}{bs:List Int}:RS1 g.s (mB g a n bs).1.s:=by
 unfold mB
 cases hd:gr bs with
 | error e=>exact .inl rfl
 | ok f=>
  have c:=Ls hd;have key:∀x,∀e∈(jX f a n x).evs,aG e.value:=λx e b=>by
   rcases Vp f a n x with h|h
   .rw [h]at b;exact c e b
   .rw [h]at b;cases b
  show RS1 g.s (lu g f a n).1.s;unfold lu
  split
  .exact .inl rfl
  split
  .exact .inl rfl
  split
  .split
   .exact .inl rfl
   .exact xA (g:={ g with p:=_ }) (key _)
  .exact xA (key _)
theorem hrd_g(f:bG)(j:Nat)(rd:Int):(hrdF f j rd).g=f.g:=by
 unfold hrdF
 split
 .rfl
 .rfl
theorem ups_g:∀(l:List (List Int)) (f:bG) (ag:Int),(mG f ag l).g=f.g
 | [],f,ag=>rfl
 | b::l,f,ag=>ups_g l (putF f true ag b) ag
theorem sync_s(g:Gg):(j8 g).s=g.s:=by
 unfold j8
 split <;> rfl
theorem doF_rs{f:bG}{e:Et}(c:e.kind≠10/\e.kind≠11):RS1 f.g.s (doF f e (f,0)).1.g.s:=by
 have a:RS1 f.g.s (arrF f e.num e.rd).1.g.s:=by
  unfold arrF
  split
  .exact .inl rfl
  unfold pf
  split
  .exact take_rs (g:=f.g)
  .dsimp only;rw[hrd_g];exact .inl rfl
 have tick:RS1 f.g.s (sr f).1.g.s:=by
  have st:RS1 f.g.s (fZ f.g f.now).1.s:=by
   have b:RS1 f.g.s (di f.g (eJ f.now)).1.s:=xA λe d=>V0 d (by simp[eJ])
   unfold fZ
   split
   .exact b
   .exact b
  unfold sr
  split
  .exact st
  .show RS1 f.g.s (je _ _).g.s;rw[xx];exact st
 unfold doF
 by_cases hr:mI e=false
 .rw [V1 hr];exact .inl rfl
 rw[Vz hr]
 by_cases q0:e.kind=0
 .rw [V1 q0];split <;> exact .inl rfl
 rw[Vz q0]
 by_cases q1:e.kind=1
 .rw [V1 q1];exact .inl rfl
 rw[Vz q1]
 by_cases q2:e.kind=2
 .rw [V1 q2];dsimp only;rw[hrd_g];unfold lw
  split <;> exact .inl rfl
 rw[Vz q2]
 by_cases q3:e.kind=3
 .rw [V1 q3];dsimp only;rw[hrd_g];unfold pe;rw[ups_g];exact .inl rfl
 rw[Vz q3]
 by_cases q4:e.kind=4
 .rw [V1 q4];exact a
 rw[Vz q4]
 by_cases q5:e.kind=5
 .rw [V1 q5];exact .inl rfl
 rw[Vz q5]
 by_cases q6:e.kind=6
 .rw [V1 q6];exact .inl rfl
 rw[Vz q6]
 by_cases q7:e.kind=7
 .rw [V1 q7];exact .inl rfl
 rw[Vz q7]
 by_cases q8:e.kind=8
 .rw [V1 q8];exact tick
 rw[Vz q8]
 by_cases q9:e.kind=9
 .rw [V1 q9];dsimp only;rw[xx];exact .inl (sync_s f.g)
 rw[Vz q9,Vz c.1];exact .inl rfl
def bsB(bs:List Int):Bool:=bs.all (λb=>decide (0<=b)&&decide (b<=255))&&decide (bs.length<=1000000)
theorem xB{bs:List Int}(h:bsB bs=true):aP bs/\bs.length<=1000000:=by
 unfold bsB at h;simp only[V4,VK,V5]at h;exact⟨λb hb=>by have:=h.1 b hb;omega,h.2⟩
def agTB(g:Ag):Bool:=decide (0<=g.id/\g.id<=63)&&decide (g.most<=1024)&&decide (0<=g.boot/\g.boot<=1099511627776)&&decide (0<=g.ep/\g.ep<=1099511627776)&&decide (0<=g.ck/\g.ck<=maxT)&&decide (g.kept.length<=g.seq/\g.seq<=1099511627775) &&
 decide ((g.kept.length:Int)<=1024)&&decide (g.prb.length<=8)&&decide (0<=g.drop/\g.drop<=1000000)&&g.kept.all λe=>df e.name e.labs&&decide (aG e.value)&&decide (0<=e.stamp)&&decide (e.stamp<=g.ck)
theorem agTB_ok{g:Ag}(h:agTB g=true):gQ g:=by
 unfold agTB at h;simp only[V4,VK,V5]at h;obtain⟨⟨⟨⟨⟨⟨⟨⟨⟨u,t⟩,i⟩,n⟩,s⟩,v⟩,j⟩,m⟩,k⟩,f⟩:=h;exact⟨u,t,i,n,s,v,j,m,k,λe w=>by
  obtain⟨⟨⟨a,b⟩,c⟩,d⟩:=f e w;exact⟨a,b,c,d⟩⟩
def wrB(w:Wr):Bool:=decide (1<=w.most/\w.most<=4096)&&decide ((w.m.length:Int)<=w.most)&&w.m.all (λp=>decide (0<=p.1/\p.1<w.next)&&bsB p.2.2.2.2&&decide (0<=p.2.2.1/\p.2.2.1<64))&&decide (0<=w.next/\w.next<=30000000000)
theorem wrB_ok{w:Wr}(h:wrB w=true):kD w/\w.next<=30000000000:=by
 unfold wrB at h;simp only[V4,VK,V5]at h;obtain⟨⟨⟨e,d⟩,b⟩,c⟩:=h;exact⟨⟨e,d,λp a=>(b p a).1.1,⟨c.1,by omega⟩,λp a=>⟨(xB (b p a).1.2).1,(xB (b p a).1.2).2,(b p a).2⟩⟩,c.2⟩
def ggB(g:Gg):Bool:=decide (g.s.kept.length<=800000)&&decide (0<=g.rl.seg/\g.rl.seg<2147483647)&&decide (64<=g.rl.most/\g.rl.most<=1048576)&&decide (g.rl.next<=1099511627776)&&decide (g.rl.syn<=1099511627776)&&decide (g.rows.length<=549755813888)&&decide (0<=g.recs/\g.recs<=1000000000) &&
 decide (g.pend.length<=100000000)&&decide (0<=g.p.count/\g.p.count+64<=1000000000000)&&decide (1<=g.p.most/\g.p.most<=1024)&&decide (g.p.out.length<=1024)&&g.p.last.all (λx=>decide (0<=x.2/\x.2<=4611686018427387903))&&decide (aG g.p.boot)
theorem B0{g:Gg}(R:Rch g.s)(h:ggB g=true):jd g/\g.p.count+64<=1000000000000/\g.pend.length<=100000000:=by
 unfold ggB at h;simp only[V4,VK,V5]at h;obtain⟨⟨⟨⟨⟨⟨⟨⟨⟨⟨⟨⟨t,f⟩,i⟩,m⟩,n⟩,u⟩,j⟩,k⟩,e⟩,a⟩,d⟩,c⟩,b⟩:=h;exact⟨⟨R,t,⟨⟨f.1,by omega⟩,i,m,n⟩,u,f.2,j,by omega,⟨⟨e.1,by omega⟩,a,d,c,b⟩⟩,e.2,k⟩
def exTB(f:bG)(e:Et):Bool:=ggB f.g&&wrB f.w&&(List.range 64).all (λj=>agTB (f.ags j))&&f.rds.all (λp=>decide (p.2.length<=1000000))&&decide (f.sink.length<=30000000000)&&decide (f.facts.length<=3000) &&
 (decide (e.kind≠5)&&decide (e.kind≠6)&&decide (e.kind≠7)&&decide (e.kind≠10)&&decide (e.kind≠11)) &&
 (decide (e.kind≠8)||(ggB (di f.g (eJ f.now)).1&&ggB (fZ f.g f.now).1&&(fZ f.g f.now).2.1.all (λo=>bsB o.bs)&&decide ((fZ f.g f.now).2.1.length<=1000))) &&
 (decide (e.kind≠9)||(f.g.rows.all (λr=>decide (r.1<=f.g.rl.seg))&&f.g.pend.all λo=>bsB o.bs))
def runB(f:bG):List Et->Bool
 | []=>true
 | e::es=>exTB f e&&runB (doF f e (f,0)).1 es
theorem rs_stp{g:Gg}{now:Int}(R:Rch g.s):Rch (di g (eJ now)).1.s/\Rch (fZ g now).1.s:=by
 have a:Rch (di g (eJ now)).1.s:=(xA λe b=>V0 b (by simp[eJ])).rch R
 refine⟨a,?_⟩;unfold fZ
 split
 .exact a
 .exact a
section
variable {F L:List aD}{H:aC}{K:KQ}{Q Q':aD}{f:bG}{fb:Nat}{ab:Nat->Nat}
theorem FDoB{e:Et}{ex:EtX}(R:Rch f.g.s)(hb:exTB f e=true)(n:bB Q ex.la (aF aZ e.labs))(u:e.labs.length<=100)(h:aA H (Q::fltA Q fb ab f::F))
  (k:∀Q' H',aH Q Q'->Rch (doF f e (f,0)).1.g.s->aA H' (Q'::fltA Q' fb ab (doF f e (f,0)).1::F)->K (I64ZZ (doF f e (f,0)).2) H'):CF 55 #[PA fb 0,.agg ⟨aY e ex⟩] H K:=by
 unfold exTB at hb;simp only[V4,VY,VK,V5,Wh]at hb;obtain⟨⟨⟨⟨⟨⟨⟨⟨b1,b2⟩,b3⟩,b4⟩,b5⟩,b6⟩,b7⟩,b8⟩,b9⟩:=hb;obtain⟨g1,g2,g3⟩:=B0 R b1;obtain⟨w1,w2⟩:=wrB_ok b2;obtain⟨⟨⟨⟨q5,q6⟩,q7⟩,a⟩,b⟩:=b7;refine Vg (cr:=(f,0)) ⟨g1,w1,λj t=>agTB_ok (b3 j t),b4,w2,b5,b6⟩ ⟨q5,q6,q7,a,b⟩ n (by omega) (λv=>?_) (λm=>?_) h λQ' H' hs h=>k Q' H' hs ((doF_rs ⟨a,b⟩).rch R) h
 .obtain⟨⟨⟨t1,t2⟩,t3⟩,t4⟩:=b8.resolve_left λc=>c v
  have i:=rs_stp (now:=f.now) R;exact⟨(B0 i.1 t1).1,(B0 i.2 t2).1,g2,λo d=>xB (t3 o d),t4⟩
 .obtain⟨t1,t2⟩:=b9.resolve_left λc=>c m
  exact⟨t1,λo d=>xB (t2 o d),g3⟩
theorem M4:∀(es:List Et) (f:bG),(mK f es).2.length=es.length
 | [],f=>rfl
 | e::es,f=>congrArg (·+1) (M4 es _)
theorem Vq{a:Xa}{c:Nat}{xs:List Ey}{rs:List Int}{f':bG}(C:EyK Q a xs)(E:∀y∈xs,y.e.labs.length<=100)(M:xs.length<=1000)(R:Rch f.g.s)(hb:runB f (xs.map Ey.e)=true)(i:mK f (xs.map Ey.e)=(f',rs))(h:aA H (Q::fltA Q fb ab f::F))
  (k:∀Q' A B H',aH Q Q'->aA H' (Q'::slA 41 1 A rs.length B (rs.map I64ZZ)::fltA Q' fb ab f'::F)->K (.slice A rs.length B) H'):CF 27 #[PA fb 0,.slice a xs.length c] H K:=by
 have x:SlT Tryz.prog 76 41 1 8:=eG (by kernel_rfl);refine cN 27 0x1121561239925144c [[(5,sS),(10,sI)]] ?_;have u:rs.length=xs.length:=by have:=M4 (xs.map Ey.e) f;rw[i,VP]at this;exact this
 refine⟨λla D lc t H'=>∃(j:Nat) (Q':aD) (g:bG),t=j/\j<=xs.length/\j=D/\aH Q Q'/\Rch g.g.s/\runB g ((xs.drop j).map Ey.e)=true/\mK g ((xs.drop j).map Ey.e)=(f',rs.drop j)/\aA H' (slA 41 1 la j lc ((rs.take j).map I64ZZ)::Q'::fltA Q' fb ab g::F),λ_ _ _ t _=>xs.length-t.toNat,
  ⟨0,Q,f,rfl,VE _,rfl,aH.refl Q,R,hb,i,h.sl_nil 41 1⟩,?_⟩
 clear h i hb R
 rintro la D lc t O ⟨j,L,g,rfl,N,rfl,hs,R,hb,i,h⟩;refine⟨λG=>?_,λG=>?_⟩
 .have d:j<xs.length:=by grind
  have n:j<rs.length:=by omega
  have J:i64.wrap ((j:Int)+1)=((j+1:Nat):Int):=by grind [aJ]
  have v:=(C.row.sub hs).at h 1 rfl;have w:=(C.ins _ (V7 d)).sub hs;rw[Wv d,VR,runB,V4]at hb;rw[Wv d,Wv n,VR,mK,Prod.mk.injEq,List.cons.injEq]at i;obtain⟨r1,r2,r3⟩:=i;refine⟨⟨by omega,by omega⟩,_,_,v.some fF (by decide) d,_,_,_,_,_,_,_,_,_,_,_,_,_,_,_,v.els fF d,h.al λb _ h=>h.st 0 rfl rfl λH2 h=>⟨_,_,_,_,_,_,_,_,_,_,_,_,_,_,_,h.q 0,?_⟩⟩
  refine FDoB R hb.1 w.lab (E _ (V7 d)) (h.o [2,3,0,1] 4) λQ2 S s2 I h=>⟨_,rfl,h.al λb2 _ h=>?_⟩
  refine h.append (m:=1) (ws:=[I64ZZ (doF g xs[j].e (g,0)).2]) x 4 rfl (h.ce_rd 0 rfl) rfl rfl (by omega) (by omega) λa5 c5 P h=>⟨_,_,_,rfl,⟨j+1,Q2,(doF g xs[j].e (g,0)).1,J,d,rfl,hs.trans s2,I,hb.2,Prod.ext r1 r3,?_⟩,by grind⟩
  rw[VU n,VS,<-r2];exact h.o [4,1,2] 5
 .obtain rfl:j=xs.length:=by grind
  rw[List.drop_length,List.map_nil,mK,Prod.mk.injEq]at i;obtain⟨rfl,_⟩:=i;rw[<-u,VO]at h;have:=k L la lc _ hs (h.o [1,0,2] 3);rw[u]at this;exact this
theorem Vr{c:Fcg}(d:fcR c=false)(h:aA H (Q::F))(k:∀H',aA H' (Q::F)->K (.tuple #[.pointer none,I64ZZ 11]) H'):CF 26 #[.agg ⟨kF c⟩] H K:=by
 refine Ew (h.al λb _ h=>⟨_,_,_,_,_,_,_,_,_,_,_,_,_,_,_,h.q 0,?_⟩)
 exact Mt (c:=c) h λe h=>⟨_,rfl,λ_=>k _ h.tl,λa=>by rw[d]at a;cases a⟩
theorem Vs{c:Fcg}(D:fcR c=true)(P:iD c.o.segment []=0)(m:(opS c.o.segment []).seg<2147483647)(A:(opS c.o.segment []).ok)
  (v:(cH (cR c.o.cfg) gR).2.2=0) (w:1<=(cH (cR c.o.cfg) gR).1.boots/\(cH (cR c.o.cfg) gR).1.boots<=1099511627776) (h:aA H (Q::F))
  (k:∀Q' fb ab H',aH Q Q'->aA H' (Q'::fltA Q' fb ab (newF c (newG c))::F)->K (.tuple #[PA fb 0,I64ZZ 0]) H'):CF 26 #[.agg ⟨kF c⟩] H K:=by
 refine Ew (h.al λb _ h=>⟨_,_,_,_,_,_,_,_,_,_,_,_,_,_,_,h.q 0,?_⟩)
 refine Mt (c:=c) h λU h=>⟨_,rfl,λB=>?_,λ_=>⟨_,_,_,_,_,_,_,_,_,_,_,_,_,_,_,h.q 0,?_⟩⟩
 .rw [D]at B;cases B
 obtain⟨r1,r2,r3⟩:=fcR_of D;refine New_spec h λdb H2 h=>⟨_,rfl,h.q 1,h.al λfb _ h=>?_⟩
 refine Uo h λlb Y h=>⟨_,rfl,h.st 1 rfl rfl λV h=>h.alm aggI3 aggPt λsm _ h=>h.st 2 rfl rfl λW h=>h.alm aggPt aggSl λrm _ h=>h.st 3 rfl rfl λL h=>?_⟩
 have h:aA L (mapA aggPt aggSl rm []::mapA aggI3 aggPt sm []::ledA lb []::cellsA fb (ow c lb sm rm db (λ_=>0) 0 (.pointer none)) 121::diskX db [] 0::cellsA b (kF c) 30::Q::F):=h
 refine⟨λt H'=>∃(n:Nat) (ab:Nat->Nat),t=n/\n<=64/\aA H' (cellsA fb (ow c lb sm rm db ab n (.pointer none)) 121::agsX Q ab (ag0 c.buf) 64 n::mapA aggPt aggSl rm []::mapA aggI3 aggPt sm []::ledA lb []::diskX db [] 0::cellsA b (kF c) 30::Q::F),λt _=>64-t.toNat,
  ⟨0,_,rfl,by omega,(jO (h.o [3,0,1,2,4,5,6] 7)).o [1,0,2,3,4,5,6,7] 8⟩,?_⟩
 clear h
 rintro t T ⟨n,ab,rfl,B,h⟩;refine⟨λj=>?_,λj=>?_⟩
 .have d:n<64:=by grind
  have S:i64.wrap ((n:Int)+1)=((n+1:Nat):Int):=by grind [aJ]
  refine⟨_,h.r 6,Ms (Q:=Q) d h (λhb=>V0 r2 hb) λ_ a I h=>⟨_,_,rfl,⟨by omega,by omega⟩,?_⟩⟩
  refine st_new (b:=a) d (h.o [1,0,2,3,4,5,6,7,8] 9) λJ h=>⟨⟨n+1,upd ab n a,S,d,?_⟩,by grind⟩
  have e:agsX Q (upd ab n a) (ag0 c.buf) 64 (n+1)=agA Q a (ag0 c.buf n)*agsX Q ab (ag0 c.buf) 64 n:=by
   conv=>lhs;unfold agsX
   rw[nO,xk,Mu (ab:=upd ab n a) (ab':=ab) λi hi=>ut ab a (by omega)]
  rw[e];exact swp (iI.2 (h.o [1,2,0,3,4,5,6,7,8] 9))
 .have j:=V2 j;obtain rfl:n=64:=by omega
  refine⟨_,h.r 6,Lx (Q:=Q) h (λhb=>V0 r3 (by omega)) λ_ wb I h=>⟨_,_,rfl,h.st 1 rfl rfl λJ h=>⟨some ⟨db,0,none⟩,h.r 1,_,_,_,_,_,_,_,_,_,_,_,_,_,h.q 7,?_⟩⟩⟩
  refine Uu r1 P m A v w (h.o [8,6,0,1,2,3,4,5] 9) λE gb a c1 O s1 h=>⟨_,_,_,_,_,rfl,λj=>V0 j (by simp),λ_=>h.st 4 rfl rfl λs h=>?_⟩
  have u:∃G,newG c=G:=⟨_,rfl⟩;obtain⟨G,u⟩:=u;unfold newG at u k;rw[u]at h k;have h:aA s (E::slA 222 11 a ([]:List Oy).length c1 (aF cu [])::gateA E gb db G::wireA Q wb ⟨c.pk,0,[]⟩::cellsA fb (PA lb 0::.map (some sm)::.slice none 0 0::.slice none 0 0::.map (some rm)::cY (λ_=>.bool false) 64 0 (cY (λ_=>.bool false) 64 0
   (nC c.o++(I64ZZ c.buf::I64ZZ c.pk::I64ZZ 0::cY (ptN ab 64) 64 0 [PA wb 0,PA db 0,PA gb 0])))) 121::agsX Q ab (ag0 c.buf) 64 64::mapA aggPt aggSl rm []::mapA aggI3 aggPt sm []::ledA lb []::F):=h
  rw[ptN_all]at h;have h:=sf s1 (h.o [3,0,1,2,4,5,6,7,8] 9);have h:=qD s1 (h.o [5,0,1,2,3,4,6,7,8] 9);have h:aA s (mapA aggPt aggSl rm []::rowsRZZ []::_):=(jO (h.o [6,0,1,2,3,4,5,7,8] 9)).o [1,0,2,3,4,5,6,7,8,9] 10;have h:=(Bg (rds:=[])).2 ⟨[],rfl,h⟩;have h:=((h.sl_nil 322 9).sl_nil 38 1);have h:=(dr (f:=newF c G)).2 ⟨⟨lb,sm,none,0,none,0,rm,wb,db,gb⟩,[],[],⟨rfl,λy M=>V0 M (by simp),rfl,⟨λx j=>V0 j (by simp)⟩⟩,h.o [8,10,9,0,1,2,3,4,7,5,6] 11⟩
  refine Leave_spec (f:=newF c G) ⟨r3,by show (0:Int)<=c.pk;omega,λp C=>V0 C (by simp[newF]),by simp[newF],λp C=>V0 C (by simp[newF])⟩ (by simp[newF]) (by simp[newF]) (λz N=>V0 N (by simp)) (h.o [1,2,0] 3) λQ2 R s2 h=>⟨rfl,k Q2 fb ab _ (s1.trans s2) h⟩
end
section
variable {F L:List aD}{H:aC}{K:KQ}{Q Q':aD}{f f0:bG}{fb j:Nat}{ab:Nat->Nat}
theorem Small94(h:aA H F)(k:∀H',aA H' F->K (.agg ⟨nC Fa.c0.o⟩) H'):CF 17 #[] H K:=by
 refine cM 17 28 (h.al λb _ h=>?_)
 exact TY h λa h=>⟨_,_,_,_,_,_,_,_,_,rfl,h.st 0 rfl rfl λH2 h=>⟨_,_,_,_,_,_,_,_,_,_,_,_,_,h.q 0,k _ h.tl⟩⟩
theorem B4(h:aA H F)(k:∀H',aA H' F->K (.agg ⟨kF Fa.c0⟩) H'):CF 7 #[] H K:=by
 refine cM 7 28 (h.al λb _ h=>?_)
 exact Small94 h λa h=>⟨_,_,_,_,_,_,_,_,_,_,_,_,_,rfl,h.st 0 rfl rfl λH2 h=>⟨_,_,_,_,_,_,_,_,_,_,_,_,_,_,_,h.q 0,k _ h.tl⟩⟩
end
end Go.Proofs.YtnjaappmhadfdaaGreatDoor
