/-
  Lemmas for TaleBack: part 10 of what it rests on. Conditions: none.
-/
import Derived.Test.YtnjaappmhadfdaaGreatDoorTF9
set_option linter.unusedVariables false
set_option linter.unusedSimpArgs false
set_option maxRecDepth 100000
set_option maxHeartbeats 16000000
open Go.IntKind (i64 u64 i8 u8 i32 u32 i16 u16)
namespace Go.Proofs.YtnjaappmhadfdaaGreatDoor
open Go
inductive LsR:List (List UInt8)->List Pe->Prop where
 | nil:LsR [] []
 | cons {l:List UInt8} {p:Pe} {ls:List (List UInt8)} {ps:List Pe} (h10:(10:UInt8)∉l) (h:PeR l p) (hr:LsR ls ps):LsR (l::ls) (p::ps)
theorem LsR.len{ls:List (List UInt8)}{ps:List Pe}(h:LsR ls ps):ls.length=ps.length:=by
 induction h with
 | nil=>rfl
 | cons _ _ _ ih=>simp[ih]
theorem LsR.no{ls:List (List UInt8)}{ps:List Pe}(h:LsR ls ps):∀l∈ls,(10:UInt8)∉l:=by
 induction h with
 | nil=>intro l a;cases a
 | cons h10 _ _ ih=>
  intro l a
  rcases V9.1 a with rfl|a
  .exact h10
  .exact ih l a
theorem LsR.at{ls:List (List UInt8)}{ps:List Pe}(h:LsR ls ps):∀j,∀a:j<ps.length,∀l,ls[j]?=some l->PeR l ps[j]:=by
 induction h with
 | nil=>intro j a;simp at a
 | cons _ h _ ih=>
  intro j a l b
  cases j with
  | zero=>cases b;exact h
  | succ j=>exact ih j (by simpa using a) l (by simpa using b)
theorem LsR.app{ls a:List (List UInt8)}{ps b:List Pe}(h:LsR ls ps)(c:LsR a b):LsR (ls++a) (ps++b):=by
 induction h with
 | nil=>exact c
 | cons h10 h _ ih=>exact .cons h10 h ih
abbrev fp(ls:List (List UInt8)):List UInt8:=ls.flatMap (·++[10])
theorem B5{ls:List (List UInt8)}{ps:List Pe}{t:List UInt8}{p:Pe}(h:LsR ls ps)(a:(10:UInt8)∉t)(c:PeR t p):mJ (fp ls++t) (peE (ps++[p])) 0 0:=by
 have b:=h.app (.cons a c .nil);have hs:cX 10 (fp ls++t)=ls++[t]:=by rw[Bm t h.no,xr a]
 refine .inl ⟨ps++[p],?_,?_,rfl,rfl,rfl⟩
 .rw [hs];exact b.len
 .rw [hs];exact b.at
theorem M5{ls:List (List UInt8)}{ps:List Pe}{t l:List UInt8}(h:LsR ls ps)(f:(cX 10 t)[0]?=some l)(d:¬pj l)(c:uw l):mJ (fp ls++t) [] (ps.length+1) 10:=by
 have hs:cX 10 (fp ls++t)=ls++cX 10 t:=Bm t h.no;refine .inr ⟨ps,l,?_,λj b e a=>?_,d,c,rfl,rfl,rfl⟩
 .rw [hs,<-h.len,List.getElem?_append_right (VD _),Nat.sub_self];exact f
 .rw [hs,List.getElem?_append_left (by rw[h.len];exact b)]at a;exact h.at j b e a
theorem uD{e:Et}{l:List UInt8}(b:EtW e)(h:cO e=some l):(10:UInt8)∉l/\PeR l (.line e):=by
 obtain⟨w,fs,d⟩:=Bo h;obtain⟨a,c,r,rfl,f⟩:=d.line b.by_;refine⟨a,?_,.inl ⟨e,w,fs,rfl,d,b⟩⟩;rintro (h|⟨i,h⟩)
 .cases h
 .simp only[List.cons.injEq]at h;exact f h.1
theorem M6:∀{es:List Et},(∀e∈es,EtW e)->(∀e∈es,(cO e).isSome=true)->LsR (es.map λe=>(cO e).getD []) (es.map Pe.line)
 | [],_,_=>.nil
 | e::es,hw,hs=>by
  have f:=hs e (by simp);obtain⟨l,c⟩:=WY.1 f;obtain⟨a,b⟩:=uD (hw e (by simp)) c;refine .cons ?_ ?_ (M6 (λe d=>hw e (VF _ d)) λe d=>hs e (VF _ d))
  .show (10:UInt8)∉(cO e).getD [];rw[c];exact a
  .show PeR ((cO e).getD []) _;rw[c];exact b
theorem Vt(es:List Et):peE (es.map Pe.line)=es:=by
 induction es with
 | nil=>rfl
 | cons e es ih=>simp[peE,ih]
theorem uE:PeR [] .skip:=.inl rfl
theorem M7{es:List Et}{t:List UInt8}(b:∀e∈es,EtW e)(h:jg es=some t):mJ t es 0 0:=by
 unfold jg at h
 split at h
 .next hs=>
  have hs:=VK.1 hs;have a:=B5 (M6 b hs) (t:=[]) (by simp) uE;rw[uB,Vt]at a;have e:fp (es.map λe=>(cO e).getD [])++[]=t:=by
   rw[VQ,<-Option.some.inj h,fp,List.flatMap_map]
  rw[e]at a;have e2:es++peE [Pe.skip]=es:=VQ es;rw[e2]at a;exact a
 .cases h
def B6(p:List UInt8):Bool:=(List.range 12).all λn=>match fi (n:Int) with
 | some (w,fs)=>!(decide ((cX 32 p).head?=some w)&&decide ((cX 32 p).length=1+fs.length))
 | none=>true
theorem B7{p:List UInt8}(h:B6 p=true):uw p:=by
 rintro k w fs a ⟨c,b⟩;obtain⟨n,rfl⟩:=qE a;have:=VK.1 h n.val (Wh.2 n.isLt);rw[a]at this;simp[c,b]at this
namespace Ta
def eM:Et:={ kind:=2,ag:=3,rd:=1014,val:=-5,nm:=⟨#[109]⟩,labs:=[⟨⟨#[97]⟩,⟨#[49]⟩⟩] }
def lM:List UInt8:=[109,101,97,115,117,114,101,32,51,32,49,48,49,52,32,45,53,32,109,123,97,61,49,125]
theorem vM:cO eM=some lM:=by kernel_rfl
def eF:Et:={ kind:=7,ag:=2,bs:=[10,255] }
def lF:List UInt8:=[102,111,114,103,101,32,50,32,48,97,102,102]
theorem vF:cO eF=some lF:=by kernel_rfl
def lN:List UInt8:=[102,111,114,103,101,32,50,32,32,48,97,102,102]
theorem vN:B6 lN=true:=by kernel_rfl
def es2:List Et:=[{ kind:=0,now:=5 },{ kind:=9 }]
def t2:List UInt8:=[116,105,109,101,32,53,10,115,121,110,99,10]
theorem v2:jg es2=some t2:=by kernel_rfl
def t3:List UInt8:=[35,32,97,10,10,116,105,109,101,32,53,10,115,121,110,99]
def t4:List UInt8:=[116,105,109,101,32,53,10,10,119,104,97,116,10]
def es:List Et:=[{ kind:=0,now:=5 },{ kind:=1,ag:=3,bt:=1 },{ kind:=3,ag:=3,rd:=105 },{ kind:=4 },{ kind:=9 },{ kind:=4,num:=1,rd:=105 },{ kind:=8 },{ kind:=4,num:=2,rd:=105 },{ kind:=2,ag:=3,rd:=105,val:=7,nm:=⟨#[109]⟩ },
 { kind:=3,ag:=3,rd:=105 },{ kind:=4,num:=3 },{ kind:=4,num:=4 },{ kind:=9 },{ kind:=0,now:=300 },{ kind:=8 },{ kind:=9 }]
def tP:List UInt8:=[116,105,109,101,32,53,10,98,111,111,116,32,51,32,49,10,115,116,101,112,32,51,32,49,48,53,10,97,114,114,105,118,101,32,48,32,48,10,115,121,110,99,10,97,114,114,105,118,101,32,49,32,49,48,53,10,116,105,99,107,10,97,114,114,105,118,101,32,50,32,49,48,53,10,109,101,97,115,117,114,101,32,51,32,49,48,53,32,55,32,109,10,115,116,101,112,32,51,32,49,48,53,10,97,114,114,105,118,101,32,51,32,48,10,97,114,114,105,118,101,32,52,32,48,10,115,121,110,99,10,116,105,109,101,32,51,48,48,10,116,105,99,107,10,115,121,110,99,10]
theorem vP:jg es=some tP:=by kernel_rfl
def etWB(e:Et):Bool:=([1,2,3,4,5,6].all λo=>decide (aG (lx e o)))&&decide (aG e.keep)&&e.bs.all (λb=>decide (0<=b)&&decide (b<=255))&&decide (e.bs.length<=500)&&decide (e.labs.length<=100)
theorem xC{e:Et}(h:etWB e=true):EtW e:=by
 unfold etWB at h;simp only[V4,VK,V5]at h;obtain⟨⟨⟨⟨i,f⟩,c⟩,j⟩,k⟩:=h;refine⟨λo d=>i o ?_,f,λb hb=>?_,by omega,by omega⟩
 .obtain⟨a,b⟩:=d;have:o=1\/o=2\/o=3\/o=4\/o=5\/o=6:=by omega
  simpa using this
 .have:=c b hb;omega
theorem wM:EtW eM:=xC (by kernel_rfl)
theorem wF:EtW eF:=xC (by kernel_rfl)
theorem w2:∀e∈es2,EtW e:=λe a=>xC (VK.1 (show es2.all etWB=true by kernel_rfl) e a)
theorem wP:∀e∈es,EtW e:=λe a=>xC (VK.1 (show es.all etWB=true by kernel_rfl) e a)
theorem r3:mJ t3 es2 0 0:=by
 have b:=uD (l:=[116,105,109,101,32,53]) (w2 { kind:=0,now:=5 } (by simp[es2])) (by kernel_rfl);have a:=uD (l:=[115,121,110,99]) (w2 { kind:=9 } (by simp[es2])) (by kernel_rfl);exact B5 (ls:=[[35,32,97],[],[116,105,109,101,32,53]]) (ps:=[.skip,.skip,.line { kind:=0,now:=5 }]) (t:=[115,121,110,99]) (p:=.line { kind:=9 }) (.cons (by decide) (.inr ⟨_,rfl⟩) (.cons (by decide) uE (.cons b.1 b.2 .nil))) a.1 a.2
theorem r4:mJ t4 [] 3 10:=by
 have a:=uD (l:=[116,105,109,101,32,53]) (w2 { kind:=0,now:=5 } (by simp[es2])) (by kernel_rfl);exact M5 (ls:=[[116,105,109,101,32,53],[]]) (ps:=[.line { kind:=0,now:=5 },.skip]) (t:=[119,104,97,116,10]) (l:=[119,104,97,116]) (.cons a.1 a.2 (.cons (by decide) uE .nil)) rfl (by rintro (h|⟨r,h⟩) <;> simp at h) (B7 (by kernel_rfl))
theorem rP:mJ tP es 0 0:=M7 wP vP
def FP:bG:=(mK Fa.F0 es).1
def rsP:List Int:=(mK Fa.F0 es).2
def idP:Id3:=⟨3,1,0⟩
def bsP:List Int:=FP.sink.headD []
def xP:Fq:=match gr bsP with|.ok x=>x|.error _=>{ kind:=0 }
def cC:Cl:=(rO xP.data).1
theorem k1:aL FP.led=[idP]:=by kernel_rfl
theorem k2:FP.sink=[bsP]:=by kernel_rfl
theorem k3:gr bsP=.ok xP:=by kernel_rfl
theorem k4:rO xP.data=(cC,0):=by kernel_rfl
def okB:Bool:=bsP.all (λb=>decide (0<=b)&&decide (b<=255))&&decide (bsP.length<=1000000)&&decide (xP.data.length<=1000000)&&xP.data.all (λb=>decide (0<=b)&&decide (b<=255)) &&
 decide (aG xP.win)&&decide (aG cC.n)&&decide (whi cC.sum=0)&&decide (wlo cC.sum=7)&&decide (aG cC.mn)&&decide (aG cC.mx)&&decide (aG cC.cer)&&decide (aG cC.pos)&&decide (xP.sl.length<=1000000)
theorem k5:okB=true:=by kernel_rfl
theorem k6:jf FP idP=(⟨0,0⟩,(5,5)):=by kernel_rfl
def rep:List UInt8:=[51,32,49,32,48,32,99,111,117,110,116,101,100,32,48,32,53,32,53,10,101,109,105,116,32,48,32,48,32,109,32,49,32,55,32,55,32,55,32,49,32,48,10]
theorem k7:iv (kG idP (jf FP idP))++iv (oz 0 xP cC)=rep:=by kernel_rfl
theorem runT:mK Fa.F0 es=(FP,rsP):=rfl
theorem runO:runB Fa.F0 es=true:=by kernel_rfl
theorem ver:VerOk idP (jf FP idP):=by
 rw[k6];exact⟨by decide,by decide,by decide,by decide,by decide,by decide,by decide⟩
theorem ok:aP bsP/\bsP.length<=1000000/\xP.data.length<=1000000/\aP xP.data/\EmitOk xP cC:=by
 have h:=k5;unfold okB at h;simp only[V4,VK,V5]at h;obtain⟨⟨⟨⟨⟨⟨⟨⟨⟨⟨⟨⟨n,m⟩,f⟩,j⟩,k⟩,u⟩,s⟩,t⟩,i⟩,d⟩,c⟩,e⟩,a⟩:=h;exact⟨λb hb=>by have:=n b hb;omega,m,f,λb hb=>by have:=j b hb;omega,k,u,⟨s,t⟩,i,d,c,e,a⟩
theorem small:∀e∈es,e.labs.length<=100:=λe a=>by
 have:=VK.1 (show (es.all λe=>decide (e.labs.length<=100))=true by kernel_rfl) e a
 simpa using this
theorem opn:(decide (iD Fa.c0.o.segment []=0)&&decide ((opS Fa.c0.o.segment []).seg<2147483647)&&decide (0<=(opS Fa.c0.o.segment []).seg)&&decide (64<=(opS Fa.c0.o.segment []).most/\(opS Fa.c0.o.segment []).most<=1048576)&&decide ((opS Fa.c0.o.segment []).next<=1099511627776)&&decide ((opS Fa.c0.o.segment []).syn<=1099511627776) &&
 decide ((cH (cR Fa.c0.o.cfg) gR).2.2=0)&&decide (1<=(cH (cR Fa.c0.o.cfg) gR).1.boots/\(cH (cR Fa.c0.o.cfg) gR).1.boots<=1099511627776))=true:=by kernel_rfl
theorem R0:Rch Fa.F0.g.s:=Ll (Lk (wT (show iZ Fa.c0.o.cfg=true by kernel_rfl))) λe a=>V0 a (by simp[gR])
theorem tPl:tP.length<=900000000:=by decide
theorem rgt0:fcR ⟨⟨⟨0,0,0,0,0,0,0,0,0⟩,0,0,0,0⟩,0,0⟩=false:=by kernel_rfl
end Ta
theorem Gl.toOld{Q:aD}{H:aC}{F:List aD}(g:Gl Q)(h:aA H (Q::F)):Gl (old H):=by
 have key:∀{i:Nat} {cs:Array Value},ou Q i cs->ou (old H) i cs:=λd H' f e=>by
  obtain⟨t,c,b⟩:=d H F h;have a:=(Array.getElem?_eq_some_iff.1 b).1;exact⟨t,c,by rw[e.old_grow 0 rfl _ a];exact b⟩
 exact⟨key g.pow,let ⟨m,hm⟩:=g.mx;⟨m,key hm⟩,key g.rs⟩
section
variable {F L:List aD}{H H0:aC}{K:KQ}{Q Q':aD}
theorem etIn_of{e:Et}{x:EtX}(b:EtK Q e x)(a:EtW e):EtIn Q e x:=⟨b.lab,b.bs,a.by_,a.num 5 (by decide),a.keep,by have:=a.ll;simp only[maxLen];omega,by have:=a.bl;simp only[maxLen];omega⟩
theorem Vu(g:Gl (old H))(k:∀H',cV H H'->K (.tuple #[.string (bL Ta.rep),I64ZZ 0,I64ZZ 0]) H'):CF 13 #[.agg ⟨kF Fa.c0⟩,.string (bL Ta.tP)] H K:=by
 have h:=sat0 H;refine cM 13 18685212 (h.al λb _ h=>⟨_,_,_,_,_,_,_,_,_,_,_,_,_,_,_,h.q 0,?_⟩)
 have u:=Ta.opn;simp only[V4,V5]at u;obtain⟨⟨⟨⟨⟨⟨⟨o1,o2⟩,o3⟩,o4⟩,o5⟩,o6⟩,o7⟩,o8⟩:=u;refine Vs (c:=Fa.c0) Fa.e5 o1 o2 ⟨⟨o3,Int.le_of_lt o2⟩,o4,o5,o6⟩ o7 o8 (swp h) λv fb ab H2 s1 h=>⟨_,_,rfl,λt=>V0 t (by simp),λ_=>?_⟩
 have h:aA H2 (v::fltA v fb ab Fa.F0::cellsA b (kF Fa.c0) 30::[]):=h;refine su (g.sub s1) Ta.tPl Ta.rP h λQ2 a c ys F s2 d n h=>⟨_,_,_,_,_,rfl,λt=>V0 t (by simp),λ_=>?_⟩
 obtain⟨m,f⟩:∃m,m=slA 40 11 a ys.length c (aF fo ys)*Q2:=⟨_,rfl⟩;have s3:aH Q2 m:=by rw[f];exact aH.add _ Q2
 have j:bB m a (aF fo ys):=by rw[f];exact bB.sl
 have h:=lv f h;have B:∀y∈ys,EtW y.e:=λy i=>Ta.wP _ (by rw[<-d];exact List.mem_map_of_mem i)
 have s:ys.length=16:=by
  have:ys.length=Ta.es.length:=by have:=congrArg List.length d;simpa using this
  exact this.trans rfl
 have w:EyK m a ys:=⟨j,λy i=>etIn_of ((n y i).sub s3) (B y i),by rw[s];simp only[maxLen];omega⟩
 have h:=swp (Mv (s2.trans s3) (swp h));refine Vq (c:=c) w (λy i=>?_) (by omega) Ta.R0 (by rw[d];exact Ta.runO) ((congrArg (mK Fa.F0) d).trans Ta.runT) h λC a1 c1 D s4 h=>⟨_,_,_,rfl,?_⟩
 .have:y.e∈Ta.es:=by rw[<-d];exact List.mem_map_of_mem i
  exact Ta.small _ this
 have o:=Ta.ok;have x:bL Ta.rep=bL (iv (kG Ta.idP (jf Ta.FP Ta.idP))++iv (oz 0 Ta.xP Ta.cC)):=by rw[Ta.k7]
 rw[x]at k;refine Vo (H0:=H) (((((g.sub s1).sub s2).sub s3).sub s4)) Ta.k1 Ta.ver Ta.k2 o.1 o.2.1 Ta.k3 o.2.2.1 o.2.2.2.1 Ta.k4 o.2.2.2.2 (((s1.trans s2).trans s3).trans s4) (h.o [0,2] 3) λE A=>⟨_,rfl,k _ A⟩
theorem Vv(h:aA H (Q::F))(k:∀H',aA H' (Q::F)->K (.tuple #[.string ⟨#[]⟩,I64ZZ 0,I64ZZ 11]) H'):CF 13 #[.agg ⟨kF ⟨⟨⟨0,0,0,0,0,0,0,0,0⟩,0,0,0,0⟩,0,0⟩⟩,.string ⟨#[]⟩] H K:=by
 refine cM 13 18685212 (h.al λb _ h=>⟨_,_,_,_,_,_,_,_,_,_,_,_,_,_,_,h.q 0,?_⟩)
 exact Vr (c:=⟨⟨⟨0,0,0,0,0,0,0,0,0⟩,0,0,0,0⟩,0,0⟩) Ta.rgt0 (swp h) λd h=>⟨_,_,rfl,λ_=>k _ (h.o [0] 2),λa=>V0 a (by simp)⟩
theorem TLine_at{e:Et}{ex:EtX}{l:List UInt8}(c:cO e=some l)(g:Gl Q)(b:EtW e)(a:EtK Q e ex)(h:aA H (Q::F))(k:∀Q' H',aH Q Q'->aA H' (Q'::F)->K (.tuple #[.string (bL l),.bool true]) H') :
  CF 9 #[.agg ⟨aY e ex⟩] H K:=Bu g b a h λQ' H' hs h=>by rw[c];exact k Q' H' hs h
theorem M8{a:Xa}{c:Nat}{xs:List Ey}{t:List UInt8}(b:jg (xs.map Ey.e)=some t)(g:Gl Q)(m:bB Q a (aF fo xs))(d:EyL Q xs)(f:xs.length<=1000)(i:aH (old H0) Q)(h:aA H (Q::F))
  (k:∀H',cV H0 H'->K (.tuple #[.string (bL t),.bool true]) H'):CF 8 #[.slice a xs.length c] H K:=My g m d f i h λH' j=>by rw[b];exact k H' j
def xs2:List Ey:=Ta.es2.map λe=>⟨e,{}⟩
theorem M9(g:Gl (old H))(k:∀H',cV H H'->K (.bool true) H'):CF 5 #[] H K:=by
 have h:=sat0 H;refine cN 5 300239975158409 [[(0,sB)]] (h.al λb H1 h=>h.al λb1 _ h=>h.st 0 rfl rfl λH2 h=>⟨_,_,_,_,h.q 0,?_⟩)
 have h:aA H2 (cellsA b1 [.string ⟨#[109]⟩,.slice (some ⟨b,0,none⟩) 1 1] 37::cellsA b (aF aZ Ta.eM.labs) 48::old H::[]):=h;obtain⟨j,a⟩:∃j,j=cellsA b (aF aZ Ta.eM.labs) 48*old H:=⟨_,rfl⟩;have h:=lv a (h.o [1,2] 3);have s1:aH (old H) j:=by rw[a];exact aH.add _ _
 have u:bB j (some ⟨b,0,none⟩) (aF aZ Ta.eM.labs):=by rw[a];exact λH F h=>(iI.1 h).ce_rd 0 rfl
 refine TLine_at (e:=Ta.eM) (ex:={ la:=some ⟨b,0,none⟩,lc:=1 }) Ta.vM (g.sub s1) Ta.wM ⟨u,bB.nil j none⟩ h λQ2 H3 s2 h=>⟨_,_,rfl,?_⟩
 have g2:=(g.sub s1).sub s2;obtain⟨w,fs,Q⟩:=Bo Ta.vF;refine Mx (l:=Ta.lF) (r:=some Ta.eF) g2 (by decide) (.inl ⟨_,w,fs,rfl,Q,Ta.wF⟩) h λJ ex H4 s3 T h=>⟨_,_,_,_,_,_,_,_,_,_,_,_,_,_,_,_,rfl,h.al λb2 _ h=>h.st 0 rfl rfl λW h=>?_⟩
 have h:aA W (cellsA b2 (aY Ta.eF ex) 40::J::[]):=h;have g3:=g2.sub s3;refine Mx (l:=Ta.lN) (r:=none) g3 (by decide) (.inr ⟨rfl,B7 Ta.vN⟩) (swp h) λS V H6 s4 Z h=>⟨_,_,_,_,_,_,_,_,_,_,_,_,_,_,_,_,rfl,h.al λb3 _ h=>h.st 0 rfl rfl λH7 h=>h.al λb4 m h=>?_⟩
 have h:aA m (cellsA b4 (aF fo xs2) 40::cellsA b3 _ 40::S::cellsA b2 (aY Ta.eF ex) 40::[]):=h;have h:=h.o [2,0,3] 4;have g4:=g3.sub s4;have x:aN m (some ⟨b4,0,none⟩) (aF fo xs2):=h.ce_rd 1 rfl;refine M8 (H0:=m) (xs:=xs2) (c:=2) Ta.v2 (g4.toOld h) (bB.old x) ⟨λy v=>?_,λy v=>?_⟩ (by decide) (aH.refl _) (sat0 m) λH9 M=>⟨_,_,rfl,?_⟩
 .obtain⟨e,n,rfl⟩:=V8.1 v;have:e.labs=[]/\e.bs=[]:=by simp only[Ta.es2,V9,WB,or_false]at n;rcases n with rfl|rfl <;> exact⟨rfl,rfl⟩
  exact etK0 _ _ this.1 this.2
 .obtain⟨e,n,rfl⟩:=V8.1 v;exact Ta.w2 e n
 have h:=(h.grow M).o [0,2] 3;refine su g4 (by decide) Ta.r3 h λQ5 a5 c5 i L s5 A _ h=>⟨_,_,_,_,_,rfl,?_⟩
 have s:i.length=2:=by
  have:i.length=Ta.es2.length:=by have:=congrArg List.length A;simpa using this
  exact this.trans rfl
 have g5:=g4.sub s5;refine su g5 (by decide) Ta.r4 (h.o [1,2] 3) λN a6 c6 U R s6 E _ h=>⟨_,_,_,_,_,rfl,?_⟩
 have g6:=g5.sub s6;refine B4 (h.o [1,2] 3) λO h=>⟨_,_,_,_,_,_,_,_,_,_,_,_,_,_,_,rfl,?_⟩
 refine Vu (g6.toOld h) λI f=>⟨_,_,_,rfl,?_⟩
 refine Vv (h.grow f) λB h=>⟨_,_,_,rfl,?_⟩
 intro Jn Y;have sA:=((((s1.trans s2).trans s3).trans s4).trans s5).trans s6;have fin:∀t H',t=true->aA H' (N::cellsA b2 (aY Ta.eF ex) 40::[])->Jn t H':=λt H' C h=>by subst C;exact Y _ _ (k _ (nD sA h))
 have G:(((true&&((bL Ta.lM).toList == (⟨#[109,101,97,115,117,114,101,32,51,32,49,48,49,52,32,45,53,32,109,123,97,61,49,125]⟩:Eq).toList))&&true)&&decide ((2:Int)=2))=true:=by kernel_rfl
 refine⟨_,λ_=>h.r 1,_,_,_,λ_=>h.r 1,λ_=>h.al λb5 P h=>⟨true,?_,fin _ _ ?_ h.tl⟩,λD=>V0 G D⟩
 .exact EB (xs:=[10,255]) (ys:=[10,255]) (c:=ex.bc) (d:=2) ((((T.bs.sub s4).sub s5).sub s6).at h 1 rfl) (h.ce_rd 0 rfl) (by decide)
 .rw [s]
  kernel_rfl
end
structure TyH(H0:aC)(y:Ey):Prop where
 lab:aN H0 y.x.la (aF aZ y.e.labs)
 bs:aN H0 y.x.ba (y.e.bs.map U8)
 by_:aP y.e.bs
 num:∀o,1<=o/\o<=6->aG (lx y.e o)
 keep:aG y.e.keep
 ll:y.e.labs.length<=maxLen
 bl:y.e.bs.length<=maxLen
theorem TyH.into{H0:aC}{y:Ey}(h:TyH H0 y):EtIn (old H0) y.e y.x:=⟨bB.old h.lab,bB.old h.bs,h.by_,h.num 5 (by decide),h.keep,h.ll,h.bl⟩
theorem MB{H0:aC}{a:Xa}{xs:List Ey}(e:xs.length<=maxLen)(d:aN H0 a (aF fo xs))(c:∀x∈xs,TyH H0 x):EyK (old H0) a xs:=⟨bB.old d,λy b=>(c y b).into,e⟩
theorem MC{H0:aC}{xs:List Ey}(b:∀x∈xs,TyH H0 x)(c:∀y∈xs,y.e.bs.length<=500/\y.e.labs.length<=100):EyL (old H0) xs:=
 ⟨λy a=>⟨bB.old (b y a).lab,bB.old (b y a).bs⟩,λy a=>⟨(b y a).num,(b y a).keep,(b y a).by_,by have:=(c y a).1;omega,by have:=(c y a).2;omega⟩⟩
section
variable {H0:aC}
theorem MD(s:Eq):(s.toList == s.toList)=true:=by simp
theorem show_len{es:List Et}{t:List UInt8}(a:∀e∈es,EtW e)(h:jg es=some t):t.length<=50001*es.length:=by
 unfold jg at h
 split at h
 .rw [<-Option.some.inj h];refine Bz λe b=>?_
  rw[V6]
  cases hl:cO e with
  | none=>show 0+1<=_;omega
  | some l=>have:=uC (a e b) hl;show l.length+1<=_;omega
 .cases h
theorem TaleBack_true{la:Xa}{lc:Nat}{xs:List Ey}(g:Gl (old H0))(W:xs.length<=maxLen)(hr:aN H0 la (aF fo xs))(S:∀x∈xs,TyH H0 x) :
  CF 3 #[.slice la xs.length lc] H0 λv H'=>v=.bool true/\cV H0 H':=by
 have D:=MB W hr S;refine cN 3 0x1dd1215621399251b41d21562139925b41c [[(11,sI)],[(5,sI)]] ?_;refine M9 g λH1 h6=>⟨_,rfl,λn=>V0 n (by simp),λ_=>?_⟩
 have h:=(sat0 H0).grow h6;refine B4 h λH2 h=>⟨_,_,_,_,_,_,_,_,_,_,_,_,_,_,_,rfl,?_⟩
 refine Mw (c:=Fa.c0) (cp:=lc) D h λH3 h=>⟨_,rfl,λ_=>⟨rfl,h.old_grow 0 rfl⟩,λI=>?_⟩
 have I:grF Fa.c0 xs=false:=by simpa using I
 obtain⟨h9,-,h5⟩:=grF_of I;have J:=MC S h5;refine My (c:=lc) g D.row J (by omega) (aH.refl _) h λH4 h4=>⟨_,_,rfl,?_⟩
 have h:=(sat0 H0).grow h4;obtain⟨es,u⟩:∃es,xs.map Ey.e=es:=⟨_,rfl⟩;have h7:es.length=xs.length:=by rw[<-u];simp
 have H:∀e∈es,EtW e:=λe Y=>by rw[<-u]at Y;obtain⟨y,U,rfl⟩:=V8.1 Y;exact J.w y U
 rw[u];obtain⟨Z,m⟩:∃Z,jg es=Z:=⟨_,rfl⟩;rw[m];refine⟨λi H'=>∃(j:Nat) (Q:aD),i=j/\j<=xs.length/\aH (old H0) Q/\(∀e∈es.take j,(cO e).isSome=true)/\aA H' (Q::[]),λi _=>xs.length-i.toNat,⟨0,_,rfl,VE _,aH.refl _,(by simp),h⟩,?_⟩
 clear h
 rintro i H5 ⟨j,Q,rfl,hj,hs,s,h⟩;refine⟨λhx=>?_,λhx=>?_⟩
 .have b:j<xs.length:=by grind
  have P:j<es.length:=by omega
  have Y:es[j]=xs[j].e:=by subst u;simp
  have hw:i64.wrap ((j:Int)+1)=((j+1:Nat):Int):=by grind [aJ]
  have M:=(D.row.sub hs).at h 0 rfl;have d:=V7 b;refine⟨⟨by omega,by omega⟩,_,_,M.some fF (by decide) b,_,_,_,_,_,_,_,_,_,_,_,_,_,_,_,M.els fF b,?_⟩;refine Bu (e:=xs[j].e) (ex:=xs[j].x) (g.sub hs) (J.w _ d) ((J.k _ d).sub hs) h λQ2 H6 s2 h=>?_
  cases hl:cO xs[j].e with
  | none=>
   refine⟨_,_,rfl,λ_=>?_,λn=>V0 n (by simp)⟩
   have hn:Z=none:=by
    rw[<-m];unfold jg;rw[Vz];intro n;have:=VK.1 n es[j] (V7 P);rw[Y,hl]at this;cases this
   subst hn;have hb:((bL []).toList == (⟨#[]⟩:Eq).toList)=true:=MD _;exact⟨congrArg Value.bool hb,nD (hs.trans s2) h⟩
  | some l=>
   refine⟨_,_,rfl,λn=>V0 n (by simp),λ_=>⟨⟨j+1,Q2,hw,b,hs.trans s2,?_,h⟩,by grind⟩⟩
   rw[We,List.getElem?_eq_getElem P,Wj];intro e A
   rcases VJ.1 A with A|A
   .exact s e A
   .obtain rfl:=VH.1 A;rw[Y,hl];rfl
 .have h0:j=es.length:=by grind
  rw[h0,VO]at s;obtain⟨t,rfl⟩:∃t,Z=some t:=by rw[<-m];unfold jg;rw[V1 (VK.2 s)];exact⟨_,rfl⟩
  have h8:=show_len H m;have:50001*es.length<=50001*250:=Wy _ (by omega);refine su (t:=t) (g.sub hs) (by omega) (M7 H m) h λQ2 a c ys H6 s2 B V h=>⟨_,_,_,_,_,rfl,λn=>?_,λ_=>?_⟩
  .have O:ys.length=xs.length:=by have:=congrArg List.length B;simp at this;omega
   simp[O]at n
  have O:ys.length=xs.length:=by have:=congrArg List.length B;simp at this;omega
  obtain⟨R,G⟩:∃R,R=slA 40 11 a ys.length c (aF fo ys)*Q2:=⟨_,rfl⟩;have s3:aH Q2 R:=by rw[G];exact aH.add _ Q2
  have E:bB R a (aF fo ys):=by rw[G];exact bB.sl
  have h:=lv G h;have C:=(hs.trans s2).trans s3;have h3:∀y∈ys,EtW y.e:=λy U=>H _ (by rw[<-B];exact List.mem_map_of_mem U)
  refine⟨λi H'=>∃j:Nat,i=j/\j<=ys.length/\aA H' (R::[]),λi _=>ys.length-i.toNat,⟨0,rfl,VE _,h⟩,?_⟩
  clear h
  rintro i H7 ⟨q,rfl,hq,h⟩;refine⟨λhx=>?_,λhx=>?_⟩
  .have b:q<ys.length:=by grind
   have f:q<xs.length:=by omega
   have hw:i64.wrap ((q:Int)+1)=((q+1:Nat):Int):=by grind [aJ]
   have K:=E.at h 0 rfl;have L:=(D.row.sub C).at h 0 rfl;have N:ys[q].e=xs[q].e:=by
    have h1:(ys.map Ey.e)[q]?=(xs.map Ey.e)[q]?:=by rw[B,u]
    rw[List.getElem?_map,List.getElem?_map,List.getElem?_eq_getElem b,List.getElem?_eq_getElem f]at h1;exact Option.some.inj h1
   have F:=K.els fF b;rw[show fo ys[q]=aY xs[q].e ys[q].x from by rw[<-N]]at F;have T:=(V _ (V7 b)).sub s3;rw[N]at T;have d:=V7 f;refine⟨⟨by omega,by omega⟩,_,_,K.some fF (by decide) b,_,_,_,_,_,_,_,_,_,_,_,_,_,_,_,F,⟨by omega,by omega⟩,_,_,L.some fF (by decide) f,_,_,_,_,_,_,_,_,_,_,_,_,_,_,_,L.els fF f,?_⟩;refine Md (e:=xs[q].e) (ex:=ys[q].x) (ey:=xs[q].x) T ((J.k _ d).sub C) (by have:=(h5 _ d).2;omega) (by have:=(h5 _ d).1;omega) h λH8 h=>⟨_,rfl,λn=>V0 n (by simp),λ_=>⟨⟨q+1,hw,b,h⟩,by grind⟩⟩
  .refine M8 (xs:=ys) (t:=t) (c:=c) (by rw[B];exact m) (g.sub C) E ⟨λy U=>(V y U).sub s3,h3⟩ (by omega) C h λH8 h2=>⟨_,_,rfl,?_,h2⟩
   have hb:(true&&((bL t).toList == (bL t).toList))=true:=MD _;exact congrArg Value.bool hb
end
theorem qK(a b:List UInt8):bL a++bL b=bL (a++b):=by
 rw[<-jW (bL a++bL b),oZ,jc,jc]
theorem oA(a:List UInt8):(bL a).size=a.length:=by show a.toArray.size=_;simp
def skN(nt:List UInt8)(at_:Int)(i:Nat):List (List UInt8):=if (i:Int)=at_ then [35::nt,[]] else []
def lsN(nt:List UInt8)(at_:Int):Nat->List Et->List (List UInt8)
 | _,[]=>[]
 | i,e::es=>skN nt at_ i++(cO e).getD []::lsN nt at_ (i+1) es
def psN(at_:Int):Nat->List Et->List Pe
 | _,[]=>[]
 | i,e::es=>(if (i:Int)=at_ then [Pe.skip,Pe.skip] else [])++Pe.line e::psN at_ (i+1) es
theorem ME(nt:List UInt8)(at_:Int)(e:Et):∀(i:Nat) (es:List Et),lsN nt at_ i (es++[e])=lsN nt at_ i es++(skN nt at_ (i+es.length)++[(cO e).getD []])
 | i,[]=>by simp[lsN]
 | i,x::es=>by
  rw[WF,lsN,ME nt at_ e (i+1) es,lsN,VA,show i+1+es.length=i+(es.length+1) by omega];simp
theorem lsN_ok{nt:List UInt8}{at_:Int}(c:(10:UInt8)∉nt):∀(i:Nat) (es:List Et),(∀e∈es,EtW e)->(∀e∈es,(cO e).isSome=true)->LsR (lsN nt at_ i es) (psN at_ i es)
 | _,[],_,_=>.nil
 | i,e::es,hw,hs=>by
  have j:=lsN_ok (nt:=nt) (at_:=at_) c (i+1) es (λe d=>hw e (VF _ d)) λe d=>hs e (VF _ d)
  obtain⟨l,f⟩:=WY.1 (hs e (by simp));obtain⟨a,b⟩:=uD (hw e (by simp)) f;have h:LsR ((cO e).getD []::lsN nt at_ (i+1) es) (Pe.line e::psN at_ (i+1) es):=by rw[f];exact .cons a b j
  unfold lsN psN skN
  split
  .exact .cons (by simp[c]) (.inr ⟨_,rfl⟩) (.cons (by simp) uE h)
  .exact h
theorem psN_e(at_:Int):∀(i:Nat) (es:List Et),peE (psN at_ i es)=es
 | _,[]=>rfl
 | i,e::es=>by
  unfold psN;rw[uB];have a:=psN_e at_ (i+1) es
  split <;> simp[peE,a]
theorem MF(at_:Int):∀(i:Nat) (es:List Et),((psN at_ i es).length:Int)=es.length+(if (i:Int)<=at_/\at_<i+es.length then 2 else 0)
 | _,[]=>by simp[psN]
 | i,e::es=>by
  have a:=MF at_ (i+1) es;unfold psN;rw[V6,VA,VA]
  by_cases h:(i:Int)=at_
  .rw [V1 h,pO];rw[nO]at a;simp;omega
  .rw [Vz h]
   by_cases h2:((i+1:Nat):Int)<=at_/\at_<((i+1:Nat):Int)+es.length
   .rw [V1 h2]at a;rw[pO];simp;omega
   .rw [Vz h2]at a;rw[nO];simp;omega
theorem B8(a b:List (List UInt8)):fp (a++b)=fp a++fp b:=List.flatMap_append
theorem MG{nt:List UInt8}{at_:Int}(b:nt.length<=200):∀(i:Nat) (es:List Et),(∀e∈es,∀l,cO e=some l->l.length<=50000)->(fp (lsN nt at_ i es)).length<=50300*es.length
 | _,[],_=>by simp[lsN]
 | i,e::es,h=>by
  have j:=MG (at_:=at_) b (i+1) es λe c=>h e (VF _ c)
  have f:((cO e).getD []).length<=50000:=by
   cases hl:cO e with
   | none=>simp
   | some l=>exact h e (by simp) l hl
  unfold lsN;rw[B8,V6,VA];have d:(fp (skN nt at_ i)).length<=203:=by
   unfold skN;split
   .simp [fp];omega
   .simp
  have a:(fp ((cO e).getD []::lsN nt at_ (i+1) es)).length=((cO e).getD []).length+1+(fp (lsN nt at_ (i+1) es)).length:=by simp[fp];omega
  rw[a,Nat.mul_succ];omega
def sw:List UInt8:=[110,111,116,104,105,110,103]
theorem Vw:B6 sw=true:=by kernel_rfl
section
variable {H0:aC}
theorem Vx{F:List aD}{H:aC}{K:KQ}{Q:aD}{s:Eq}{t:List UInt8}{es:List Et}{n b:Int}(hs:s=bL t)(g:Gl Q)(d:t.length<=900000000)(f:mJ t es n b)(h:aA H (Q::F))
  (k:∀Q' a c ys H',aH Q Q'->ys.map Ey.e=es->(∀y∈ys,EtK Q' y.e y.x)->aA H' (slA 40 11 a ys.length c (aF fo ys)::Q'::F)->K (.tuple #[.slice a ys.length c,I64ZZ n,I64ZZ b]) H'):CF 10 #[.string s] H K:=by
 subst hs;exact su g d f h k
theorem TaleNotes_true{la:Xa}{lc:Nat}{xs:List Ey}{note:Eq}{at_:Int}(g:Gl (old H0))(j2:xs.length<=maxLen)(hr:aN H0 la (aF fo xs))(h4:∀x∈xs,TyH H0 x) :
  CF 4 #[.slice la xs.length lc,.string note,I64ZZ at_] H0 λv H'=>v=.bool true/\cV H0 H':=by
 have O:=MB j2 hr h4;refine cN 4 0x1dd21562139925b41215621399251d21749441d21562139925b41217491c [[(16,sI)],[(15,sI)],[(8,sT)],[(8,sT),(9,sI)],[(7,sI)]] ?_;refine M9 g λH1 l6=>⟨_,rfl,λd=>V0 d (by simp),λ_=>?_⟩
 have h:=(sat0 H0).grow l6;refine B4 h λH2 h=>⟨_,_,_,_,_,_,_,_,_,_,_,_,_,_,_,rfl,?_⟩
 refine Mw (c:=Fa.c0) (cp:=lc) O h λH3 h=>⟨_,rfl,λ_=>⟨rfl,h.old_grow 0 rfl⟩,λB=>?_⟩
 have B:grF Fa.c0 xs=false/\note.size<=200:=by
  simp only[VN,VG]at B;exact⟨B.1,by omega⟩
 obtain⟨u8,-,h5⟩:=grF_of B.1;have S:=MC h4 h5;obtain⟨nt,j1⟩:∃nt,aR note=nt:=⟨_,rfl⟩;have j3:note=bL nt:=by rw[<-j1,jW]
 have y3:note.size=nt.length:=by rw[j3,oA]
 refine⟨λi H'=>∃j:Nat,i=j/\j<=nt.length/\(∀c∈nt.take j,c≠10)/\aA H' (old H0::[]),λi _=>nt.length-i.toNat,⟨0,rfl,VE _,(by simp),h⟩,?_⟩
 clear h
 rintro i H4 ⟨j,rfl,hj,u,h⟩;refine⟨λhx=>?_,λhx=>?_⟩
 .have b:j<nt.length:=by grind
  have hw:i64.wrap ((j:Int)+1)=((j+1:Nat):Int):=by grind [aJ]
  have hb:bAt note (j:Int).toNat=(nt[j].toNat:Int):=by
   subst j1;exact tL b
  refine⟨⟨by omega,by omega⟩,λd=>⟨rfl,h.old_grow 0 rfl⟩,λd=>⟨⟨j+1,hw,b,?_,h⟩,by grind⟩⟩
  rw[We,List.getElem?_eq_getElem b,Wj];intro c A
  rcases VJ.1 A with A|A
  .exact u c A
  .obtain rfl:=VH.1 A;intro H;rw[hb,H]at d;simp at d
 have K:j=nt.length:=by grind
 rw[K,VO]at u;have u:(10:UInt8)∉nt:=λd=>u _ d rfl
 obtain⟨es,D⟩:∃es,xs.map Ey.e=es:=⟨_,rfl⟩;have r6:es.length=xs.length:=by rw[<-D];simp
 have h0:∀e∈es,EtW e:=λe H=>by rw[<-D]at H;obtain⟨y,hy,rfl⟩:=V8.1 H;exact S.w y hy
 have hT:∀k,(fp (lsN nt at_ 0 (es.take k))).length<=20000000:=λk=>by
  have:=MG (nt:=nt) (at_:=at_) (by omega) 0 (es.take k) λe H l hl=>uC (h0 e (Ww H)) hl
  have h2:(es.take k).length<=250:=by rw[W7];omega
  have h3:50300*(es.take k).length<=50300*250:=Wy _ h2;omega
 have r0:(i64.max:Int)=9223372036854775807:=rfl;refine⟨λG i H'=>∃(k:Nat) (Q:aD),i=k/\k<=xs.length/\G=bL (fp (lsN nt at_ 0 (es.take k)))/\aH (old H0) Q/\(∀e∈es.take k,(cO e).isSome=true)/\aA H' (Q::[]),λ_ i _=>xs.length-i.toNat,
  ⟨0,_,rfl,VE _,rfl,aH.refl _,(by simp),h⟩,?_⟩
 clear h
 rintro G i H5 ⟨k,Q,rfl,hk,rfl,hs,n,h⟩;refine⟨λhx=>?_,λhx=>?_⟩
 .have b:k<xs.length:=by grind
  have l1:k<es.length:=by omega
  have H:es[k]=xs[k].e:=by subst D;simp
  have hw:i64.wrap ((k:Int)+1)=((k+1:Nat):Int):=by grind [aJ]
  have W:=(O.row.sub hs).at h 0 rfl;have f:=V7 b;refine⟨⟨by omega,by omega⟩,_,_,W.some fF (by decide) b,_,_,_,_,_,_,_,_,_,_,_,_,_,_,_,W.els fF b,?_⟩;refine Bu (e:=xs[k].e) (ex:=xs[k].x) (g.sub hs) (S.w _ f) ((S.k _ f).sub hs) h λQ2 H6 s2 h=>?_
  cases hl:cO xs[k].e with
  | none=>exact⟨_,_,rfl,λ_=>⟨rfl,nD (hs.trans s2) h⟩,λd=>V0 d (by simp)⟩
  | some l=>
   refine⟨_,_,rfl,λd=>V0 d (by simp),λ_=>?_⟩
   have y2:=uC (S.w _ f) hl;have M:=hT k;intro Jn hJ;have h7:es.take (k+1)=es.take k++[xs[k].e]:=by rw[We,List.getElem?_eq_getElem l1,Wj,H]
   have l4:(es.take k).length=k:=by rw[W7];omega
   have R:bL l++(⟨#[10]⟩:Eq)=bL (l++[10]):=qK l [10];have step:∀G,G.size<=30000000->G=bL (fp (lsN nt at_ 0 (es.take k))++fp (skN nt at_ k))->Jn G H6:=by
    intro G h8 l3;refine hJ _ _ ⟨?_,?_,⟨k+1,Q2,hw,b,?_,hs.trans s2,?_,h⟩,by grind⟩
    .show (((bL l).size+1:Nat):Int)<=9223372036854775807;rw[oA];omega
    .show ((G.size+(bL l++(⟨#[10]⟩:Eq)).size:Nat):Int)<=9223372036854775807;rw[R,show (bL (l++[10])).size=l.length+1 from by rw[oA];simp];omega
    .rw [h7,ME,l4,VB,B8,B8,hl,l3];show bL _++(bL l++(⟨#[10]⟩:Eq))=_;rw[R,qK,VX];simp[fp]
    .rw [h7];intro e s
     rcases VJ.1 s with s|s
     .exact n e s
     .obtain rfl:=VH.1 s;rw[hl];rfl
   refine⟨λd=>?_,λd=>step _ (by rw[oA];omega) ?_⟩
   .have N:(k:Int)=at_:=V3 d;have e1:(⟨#[35]⟩:Eq)++note=bL ([35]++nt):=by rw[j3];exact qK [35] nt
    have e2:((⟨#[35]⟩:Eq)++note)++(⟨#[10,10]⟩:Eq)=bL ([35]++nt++[10,10]):=by rw[e1];exact qK _ [10,10]
    refine⟨?_,?_,?_,step _ ?_ ?_⟩
    .show ((1+note.size:Nat):Int)<=9223372036854775807;omega
    .show ((((⟨#[35]⟩:Eq)++note).size+2:Nat):Int)<=9223372036854775807;rw[e1,oA,V6];simp;omega
    .show (((bL (fp (lsN nt at_ 0 (es.take k)))).size+(((⟨#[35]⟩:Eq)++note)++(⟨#[10,10]⟩:Eq)).size:Nat):Int)<=9223372036854775807;rw[e2,oA,oA];simp only[V6,VA,VV];omega
    .rw [e2,qK,oA];simp only[V6,VA,VV];omega
    .rw [e2,qK];unfold skN;rw[V1 N];simp[fp]
   .have N:¬(k:Int)=at_:=V2 d;unfold skN;rw[Vz N];simp
 .have K:k=es.length:=by grind
  have M:=hT k;rw[K,VO]at n M ⊢;have l0:=lsN_ok (at_:=at_) u 0 es h0 n;obtain⟨T,J⟩:∃T,fp (lsN nt at_ 0 es)=T:=⟨_,rfl⟩;rw[J]at M ⊢;have h8:mJ T es 0 0:=by
   have ht:=B5 l0 (t:=[]) (by simp) uE;rw[uB,psN_e,VQ,J]at ht;have e2:es++peE [Pe.skip]=es:=VQ es;rw[e2]at ht;exact ht
  refine su (t:=T) (g.sub hs) (by omega) h8 h λQ2 a c ys H6 s2 L l5 h=>⟨_,_,_,_,_,rfl,λd=>?_,λ_=>?_⟩
  .have Z:ys.length=xs.length:=by have:=congrArg List.length L;simp at this;omega
   simp[Z]at d
  have Z:ys.length=xs.length:=by have:=congrArg List.length L;simp at this;omega
  obtain⟨Q3,I⟩:∃Q3,Q3=slA 40 11 a ys.length c (aF fo ys)*Q2:=⟨_,rfl⟩;have s3:aH Q2 Q3:=by rw[I];exact aH.add _ Q2
  have P:bB Q3 a (aF fo ys):=by rw[I];exact bB.sl
  have h:=lv I h;have E:=(hs.trans s2).trans s3;refine⟨λi H'=>∃j:Nat,i=j/\j<=ys.length/\aA H' (Q3::[]),λi _=>ys.length-i.toNat,⟨0,rfl,VE _,h⟩,?_⟩
  clear h
  rintro i H7 ⟨q,rfl,hq,h⟩;refine⟨λhx=>?_,λhx=>?_⟩
  .have b:q<ys.length:=by grind
   have m:q<xs.length:=by omega
   have hw:i64.wrap ((q:Int)+1)=((q+1:Nat):Int):=by grind [aJ]
   have U:=P.at h 0 rfl;have V:=(O.row.sub E).at h 0 rfl;have Y:ys[q].e=xs[q].e:=by
    have h1:(ys.map Ey.e)[q]?=(xs.map Ey.e)[q]?:=by rw[L,D]
    rw[List.getElem?_map,List.getElem?_map,List.getElem?_eq_getElem b,List.getElem?_eq_getElem m]at h1;exact Option.some.inj h1
   have F:=U.els fF b;rw[show fo ys[q]=aY xs[q].e ys[q].x from by rw[<-Y]]at F;have h6:=(l5 _ (V7 b)).sub s3;rw[Y]at h6;have f:=V7 m;refine⟨⟨by omega,by omega⟩,_,_,U.some fF (by decide) b,_,_,_,_,_,_,_,_,_,_,_,_,_,_,_,F,⟨by omega,by omega⟩,_,_,V.some fF (by decide) m,_,_,_,_,_,_,_,_,_,_,_,_,_,_,_,V.els fF m,?_⟩;refine Md (e:=xs[q].e) (ex:=ys[q].x) (ey:=xs[q].x) h6 ((S.k _ f).sub E) (by have:=(h5 _ f).2;omega) (by have:=(h5 _ f).1;omega) h λH8 h=>⟨_,rfl,λd=>V0 d (by simp),λ_=>⟨⟨q+1,hw,b,h⟩,by grind⟩⟩
  .intro Jn hJ;have e7:bL T++(⟨#[110,111,116,104,105,110,103]⟩:Eq)=bL (T++sw):=qK T sw;have l2:mJ (T++sw) [] ((psN at_ 0 es).length+1) 10:=by
    rw[<-J];exact M5 (l:=sw) l0 (by decide) (by rintro (h|⟨r,h⟩) <;> simp[sw]at h) (B7 Vw)
   have fin:∀v:Int,v=(psN at_ 0 es).length+1->Jn v H7:=λv hv=>by
    refine hJ _ _ ⟨?_,?_⟩
    .show (((bL T).size+7:Nat):Int)<=9223372036854775807;rw[oA];omega
    .refine Vx e7 (g.sub E) (by rw[V6];show _+7<=_;omega) l2 h λQ4 a4 c4 ys4 H8 s4 _ _ h=>⟨_,_,_,_,_,rfl,?_,nD (E.trans s4) (swp h)⟩
     have hb:(decide ((10:Int)=10)&&decide ((((psN at_ 0 es).length:Int)+1)=v))=true:=by rw[hv];simp
     exact congrArg Value.bool hb
   have C:=MF at_ 0 es;have h9:i64.wrap ((xs.length:Int)+1)=((xs.length+1:Nat):Int):=by rw[aJ];omega
   refine⟨λd=>fin _ ?_,λd=>fin _ ?_⟩
   .simp only[V4,V5]at d;rw[pO]at C;rw[h9,aJ,C];omega
   .simp only[Bool.and_eq_false_iff,VG]at d;rw[nO]at C;rw[h9,C];omega
end
section
variable {H:Type}{enc:TypeId×Value->H}{W:World}
theorem Vy{cs:Xb}(h:jI enc Tryz.prog W 40 cs):∃y:Ey,cs=fo y/\TyH W.heap y:=by
 obtain⟨t,v⟩:=yD Tryz.underlying40 h;have c2:Tryz.prog.cellsOf 2=1:=by kernel_rfl
 have c3:Tryz.prog.cellsOf 3=1:=by kernel_rfl
 have m:Tryz.prog.cellsOf 37=2:=by kernel_rfl
 have n:Tryz.prog.cellsOf 38=1:=by kernel_rfl
 have f:Tryz.prog.cellsOf 40=11:=by kernel_rfl
 have c9:Tryz.prog.cellsOf 9=1:=by kernel_rfl
 have j:Tryz.prog.cellsOf 35=1:=by kernel_rfl
 rw[f]at t;simp only[V9,WB,or_false,forall_eq_or_imp,forall_eq,c2,c3,m,n]at v;obtain⟨f1,f2,f3,f4,f5,f6,f7,f8,f9,d⟩:=v
 match cs,t with
 | [x1,x2,x3,x4,x5,x6,x7,x8,x9,x10,x11],_=>
  simp only[List.drop_zero,WS,W9,List.drop_succ_cons]at f1 f2 f3 f4 f5 f6 f7 f8 f9 d;obtain⟨n1,e1,_,_⟩:=reads_int Tryz.underlying3 f1;obtain⟨n2,e2,p2,q2⟩:=reads_int Tryz.underlying2 f2;obtain⟨n3,e3,p3,q3⟩:=reads_int Tryz.underlying2 f3;obtain⟨n4,e4,p4,q4⟩:=reads_int Tryz.underlying2 f4;obtain⟨n5,e5,p5,q5⟩:=reads_int Tryz.underlying2 f5;obtain⟨n6,e6,p6,q6⟩:=reads_int Tryz.underlying2 f6;obtain⟨n7,e7,p7,q7⟩:=reads_int Tryz.underlying2 f7;obtain⟨n8,e8,b3,b4⟩:=reads_int Tryz.underlying3 f8;obtain⟨_,u⟩:=yD Tryz.underlying37 f9;simp only[V9,WB,or_false,forall_eq_or_imp,forall_eq,c9,j]at u;obtain⟨g1,g2⟩:=u;simp only[List.drop_zero,WS,W9,List.drop_succ_cons]at g1 g2;obtain⟨s1,e9,_⟩:=yC Tryz.underlying9 g1;obtain⟨la,lc,ls,b,k,w⟩:=Sf g2;obtain⟨a,c,bs,e,s,i,hb⟩:=reads_bs d;simp only[List.cons.injEq,and_true]at e1 e2 e3 e4 e5 e6 e7 e8 e9 b e;subst e1 e2 e3 e4 e5 e6 e7 e8 e9 b e;refine⟨⟨{ kind:=n1,ag:=n2,now:=n3,rd:=n4,bt:=n5,val:=n6,num:=n7,keep:=n8,nm:=s1,labs:=ls,bs:=bs },⟨la,lc,a,c⟩⟩,rfl,w,i,hb,λo x=>?_,⟨b3,b4⟩,k,s⟩
  obtain⟨A,B⟩:=x;have:o=1\/o=2\/o=3\/o=4\/o=5\/o=6:=by omega
  rcases this with rfl|rfl|rfl|rfl|rfl|rfl
  .exact⟨p2,q2⟩
  .exact⟨p3,q3⟩
  .exact⟨p4,q4⟩
  .exact⟨p5,q5⟩
  .exact⟨p6,q6⟩
  .exact⟨p7,q7⟩
theorem reads_tents{cs:Xb}(h:jI enc Tryz.prog W 22 cs):∃a c xs,cs=[.slice a (List.length xs) c]/\xs.length<=maxLen/\aN W.heap a (aF fo xs)/\∀x∈xs,TyH W.heap x:=
 yE (ec:=fo) (Q:=TyH W.heap) Tryz.underlying22 (sz:=11) (by kernel_rfl) (by decide) h (λvs b _=>Vy b) fF
end
section
variable {P:Program}{W:World}{fuel t e n g:Nat}{cs:Xb}{p:List MemPlace}
theorem MH{ds:List (DataW Unit)}{vs:Xb}(s:P.underlying t=some (.array n e))(f:P.cellsOf e=1)(j:P.cellsOf t=n)(A:vs.length=n)
  (a:∀(m:Nat) (c:Xb) (x:DataW Unit×List MemPlace) (i:Nat),DataW.trod (λ_=>()) P W 0 (λ_=>true) false m e c=some x->ds[i]?=some x.1->∃v,vs[i]?=some v/\c=[v])
  (h:DataW.trod (λ_=>()) P W 0 (λ_=>true) false fuel t cs=some (.agg ds,p)):cs=vs:=by
 obtain⟨xs,m,_,ex,b,w,d⟩:=DataW.trod_array s h;rw[j]at b;have e3:ds=xs.map (·.1):=DataW.agg.inj (Prod.mk.inj ex).1;refine Wp λi=>?_
 by_cases hi:i<n
 .have k:=d i hi;rw[f,Wn,List.getElem?_eq_getElem (by omega)]at k;obtain⟨v,y,u⟩:=a _ _ _ i k (by rw[e3,List.getElem?_map,List.getElem?_eq_getElem (by omega)];rfl);have:((cs.drop i).take 1)[0]?=some v:=by rw[u];rfl
  rw[List.getElem?_take,V1 (by decide),List.getElem?_drop,Wk]at this;rw[this,y]
 .rw [List.getElem?_eq_none (by omega),List.getElem?_eq_none (by omega)]
theorem arr_ints{k:IntKind}{a:List Int}(f:P.underlying t=some (.array n e))(u:P.underlying e=some (.int k))(b:P.cellsOf e=1)(d:P.cellsOf t=n)(s:a.length=n)
  (h:DataW.trod (λ_=>()) P W 0 (λ_=>true) false fuel t cs=some (.agg (a.map λz=>.lit (.int k z)),p)):cs=a.map (Value.int k):=by
 refine MH f b d (by simpa using s) (λm c x i j hd=>?_) h
 obtain⟨z,rfl,rfl,-⟩:=DataW.trod_int u j;rw[List.getElem?_map]at hd
 cases hz:a[i]? with
 | none=>rw[hz]at hd;cases hd
 | some z'=>
  rw[hz]at hd;simp only[VT,Option.some.injEq,DataW.lit.injEq,Lit.int.injEq,true_and]at hd;subst hd;exact⟨_,by rw[List.getElem?_map,hz];rfl,rfl⟩
theorem arr_strs{ss:List Eq}(d:P.underlying t=some (.array n e))(k:P.underlying e=some .string)(a:P.cellsOf e=1)(b:P.cellsOf t=n)(j:ss.length=n)
  (h:DataW.trod (λ_=>()) P W 0 (λ_=>true) false fuel t cs=some (.agg (ss.map λs=>.lit (.string s.data.toList)),p)):cs=ss.map Value.string:=by
 refine MH d a b (by simpa using j) (λm c x i f hd=>?_) h
 obtain⟨z,rfl,rfl,-⟩:=DataW.trod_string k f;rw[List.getElem?_map]at hd
 cases hz:ss[i]? with
 | none=>rw[hz]at hd;cases hd
 | some z'=>
  rw[hz]at hd;simp only[VT,Option.some.injEq,DataW.lit.injEq,Lit.string.injEq]at hd;have:z'=z:=ByteArray.ext (Array.toList_inj.1 hd);subst this;exact⟨_,by rw[List.getElem?_map,hz];rfl,rfl⟩
theorem varIn_of{nm:String}{cs:Array Value}(d:P.globalNamed nm=some g)(a:W.var? P nm=some cs):ou (old W.heap) g cs:=by
 unfold World.var? at a;rw[d]at a;simp only[Option.bind_some]at a
 split at a
 .next c t fz hh=>
  cases a
  intro H F h;have b:=(Array.getElem?_eq_some_iff.1 hh).1;exact⟨_,_,by rw[h.old_grow 0 rfl _ b];exact hh⟩
 .cases a
end
end Go.Proofs.YtnjaappmhadfdaaGreatDoor
