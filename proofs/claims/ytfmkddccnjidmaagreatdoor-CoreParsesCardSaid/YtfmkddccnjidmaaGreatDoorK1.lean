/-
  Lemmas for CoreParses: part 1 of what it rests on. Conditions: none.
-/
import Derived.Test.YtfmkddccnjidmaaGreatDoorK0
set_option linter.unusedVariables false
set_option linter.unusedSimpArgs false
set_option maxRecDepth 100000
open Go.IntKind (i64 u64 i8 u8 i32 u32 i16 u16)
namespace Go.Nm
open Go Go.Maps Go.RowKit
open Go
theorem qqt:∀{l:List Value},(∀v∈l,q07 [v]=true)→q07 l=true
 | [],_=>rfl
 | v::r,h=>by
  have h1:=h v z5i;have h2:=qqt (l:=r) fun x hx=>h x (z5j _ hx)
  cases v <;> simp [q07] at h1 h2 ⊢ <;> exact h2
theorem qhd {v:Value}:∀{l:List Value},q07 l=true→v∈l→q07 [v]=true
 | [],_,hv=>by cases hv
 | u::r,h,hv=>by
  have h1:=q7z h
  rcases z5l.1 hv with rfl|hv
  ·exact h1.1
  ·exact qhd h1.2 hv
def z1p (P:Program)(e:TypeId):Bool:=match P.info? e with
 | some i=>(match i.zero with|some z=>q07 z.cells.toList|none=>false)
 | none=>false
theorem qjt {z:Array Value}(hz:q07 z.toList=true)(k:Nat):q07 (Builtin.zeroCells z k).toList=true:=by
 refine qqt fun v hv=>?_
 simp only [Builtin.zeroCells,Array.toList_map,z5b] at hv;obtain⟨i,hi,rfl⟩:=hv;have hi2:i < k*z.size:=by simpa using hi
 have hs:0 < z.size:=by
  rcases z7x z.size with h|h
  ·rw [h] at hi2; omega
  ·exact h
 have hlt:=z6j i hs;rw [getElem!_pos z _ hlt];exact qhd hz (by simp)
section
variable {H:Heap} {F:Assn} {L:List Assn} {e sz n c:Nat} {a:Option Addr} {cs:List Value}
theorem qqu {P:Program}{t bytes m c2 ty:Nat}(T:SlT P t e sz bytes){a2:Option Addr}{ws:List Value}{K:Value→Heap→Prop}(h:Sat H (slA e sz a n c cs*F))(hw:rdS H a2 ws)(hl:ws.length=m*sz)(hp:q07 ws=true)
  (hroom:n+m≤c)
  (k:∀H',Sat H' (slA e sz a (n+m) c (cs++ws)*F)→K (.slice a (n+m) c) H') :
  RunW P (Builtin.append_ #[t,t] ty #[.slice a n c,.slice a2 m c2]) H K:=by
 obtain⟨ht,hsz,i,z,hi,hz,rfl,rfl,hzs⟩:=T;intro w hw0;subst hw0;obtain⟨hlen,h2⟩:=q3r h;have hfw:=q4m (P:=P) (w:=w) (c2:=c2) hw hl
 rcases h2 with ⟨h2,h3,h4,h5⟩|⟨b,pre,post,e',fr,h2,h3,h4,hf,h5⟩
 ·subst h2; subst h3; subst h4;obtain rfl:m=0:=by omega
  obtain rfl:ws=[]:=z6r (by simpa using hl);obtain rfl:cs=[]:=z6r (by simpa using hlen);refine⟨.slice none (0+0) 0,w,?_,Rest.refl w,k _ (qjk h5)⟩;simp [Builtin.append_,run_underlying ht,sizeOf,typeInfo,hi,Builtin.lenOf,hfw]
 ·subst h2;have hfit:ws.length≤post.length:=by
   refine z5f ?_ h4;rw [hl];exact z6c _ (by omega)
  have hnm:(n+m)*i.size≤c*i.size:=z6c _ hroom;rw [z5x] at hnm;have hcan:q57 w.heap b (pre.length+n*i.size) ws:=h5.canG ws _ (by simp [hlen]; omega) fun j h6 h7=>hf j (by omega) (by omega)
  obtain⟨w',h6,h7,h8⟩:=q3k (P:=P) (b:=b) ws (pre.length+n*i.size) 0 w (by simpa using hcan) (by simpa using q7s _ _ hcan) hp;refine⟨.slice (some ⟨b,pre.length,none⟩) (n+m) c,w',?_,h7,k _ ?_⟩
  ·simp [Builtin.append_,run_underlying ht,sizeOf,typeInfo,hi,Builtin.lenOf,hroom,hfw,q47,h6]
  ·rw [h8];have h9:=Sat.setsG ws (pre.length+n*i.size) h5;have e1:pre.length+n*i.size=(pre++cs).length:=by simp [hlen]
   rw [e1,q7t _ _ _ hfit] at h9;rw [z71,e1];refine h9.frame fun p hp=>⟨by simp [hlen,hl,z5x],.inr ⟨b,pre,post.drop ws.length,e',fr,rfl,hroom,?_,fun _=>hf,by simpa using hp⟩⟩
   rw [z5u,hl];have:(c - (n+m))*i.size+m*i.size=(c - n)*i.size:=by rw [← z5x]; congr 1; omega
   omega
theorem SatL.appendIn {P:Program}{t bytes m c2 ty:Nat}(T:SlT P t e sz bytes){a2:Option Addr}{ws:List Value}{K:Value→Heap→Prop}(h:SatL H L)(i:Nat)(hA:nth i L=slA e sz a n c cs)(hw:rdS H a2 ws)(hl:ws.length=m*sz)(hp:q07 ws=true)
  (hroom:n+m≤c)
  (k:∀H',SatL H' (put i (slA e sz a (n+m) c (cs++ws)) L)→K (.slice a (n+m) c) H') :
  RunW P (Builtin.append_ #[t,t] ty #[.slice a n c,.slice a2 m c2]) H K:=by
 have h2:=h.foc i;rw [hA] at h2;exact qqu T h2 hw hl hp hroom fun H' h3=>k H' (SatL.back h3)
theorem qyf {P:Program}{t bytes m c2 ty:Nat}(T:SlT P t e sz bytes)(hz:z1p P e=true){K:Value→Heap→Prop}(h:Sat H (slA e sz a n c cs*F))(hroom:n+m≤c)
  (k:∀v H',Sat H' (slA e sz a n c cs*F)→K v H') :
  RunW P (Builtin.clear_ #[t] ty #[.slice (slB a n c sz) m c2]) H K:=by
 obtain⟨ht,hsz,i,z,hi,hzz,rfl,rfl,hzs⟩:=T;intro w hw0;subst hw0;obtain⟨hlen,h2⟩:=q3r h;unfold z1p at hz;rw [hi] at hz;dsimp only at hz;rw [hzz] at hz;dsimp only at hz;have trivial_case:m=0∨slB a n c i.size=none→∃v w',(Builtin.clear_ #[t] ty #[.slice (slB a n c i.size) m c2]).run P w=.ok v w'∧Rest w w'∧K v w'.heap:=by
  rintro (rfl|hn)
  ·refine⟨.tuple #[],w,?_,Rest.refl w,k _ _ h⟩
   cases slB a n c i.size <;> simp [Builtin.clear_,run_underlying ht]
  ·refine⟨.tuple #[],w,?_,Rest.refl w,k _ _ h⟩;rw [hn];simp [Builtin.clear_,run_underlying ht]
 cases m with
 | zero=>exact trivial_case (.inl rfl)
 | succ m=>
  rcases h2 with ⟨h2,h3,h4,h5⟩|⟨b,pre,post,e',fr,h2,h3,h4,hf,h5⟩
  ·exact trivial_case (.inr (by subst h2; unfold slB; split <;> rfl))
  ·subst h2;have hb:slB (some ⟨b,pre.length,none⟩) n c i.size=some ⟨b,pre.length+n*i.size,none⟩:=by
    unfold slB;rw [if_neg (by omega),z62,q47]
   have hm1:(m+1)*i.size≤(c - n)*i.size:=z6c _ (by omega);have hnm:(n+(m+1))*i.size≤c*i.size:=z6c _ hroom;rw [z5x] at hnm;generalize hws:(Builtin.zeroCells z.cells (m+1)).toList=ws;have hl:ws.length=(m+1)*i.size:=by rw [← hws,z6i]; simp [Builtin.zeroCells,hzs]
   have hpw:q07 ws=true:=by rw [← hws]; exact qjt hz _
   have hcan:q57 w.heap b (pre.length+n*i.size) ws:=h5.canG ws _ (by simp [hlen]; omega) fun j h6 h7=>hf j (by omega) (by omega)
   obtain⟨w',h6,h7,h8⟩:=q3k (P:=P) (b:=b) ws (pre.length+n*i.size) 0 w (by simpa using hcan) (by simpa using q7s _ _ hcan) hpw;refine⟨.tuple #[],w',?_,h7,k _ _ ?_⟩
   ·rw [hb];simp [Builtin.clear_,run_underlying ht,zeroValue,typeInfo,hi,hzz,hws,h6]
   ·rw [h8];have h9:=Sat.setsG ws (pre.length+n*i.size) h5;have e1:pre.length+n*i.size=(pre++cs).length:=by simp [hlen]
    have hfit:ws.length≤post.length:=by omega
    rw [e1,q7t _ _ _ hfit] at h9;rw [z71,e1];refine h9.frame fun p hp=>⟨hlen,.inr ⟨b,pre,ws++post.drop ws.length,e',fr,rfl,h3,?_,fun _=>hf,by simpa using hp⟩⟩
    rw [z51,z5u];omega
theorem SatL.clearS {P:Program}{t bytes m c2 ty:Nat}(T:SlT P t e sz bytes)(hz:z1p P e=true){K:Value→Heap→Prop}(h:SatL H L)(i:Nat)(hA:nth i L=slA e sz a n c cs)(hroom:n+m≤c)
  (k:∀v H',SatL H' L→K v H') :
  RunW P (Builtin.clear_ #[t] ty #[.slice (slB a n c sz) m c2]) H K:=by
 have h2:=h.foc i;rw [hA] at h2;refine qyf T hz h2 hroom fun v H' h3=>k v H' ?_
 unfold SatL;rw [qch i L,hA];exact h3
theorem SatL.mk0 {P:Program}{t bytes:Nat}(T:SlT P t e sz bytes){K:Value→Heap→Prop}{kl kc:IntKind}{c:Nat}(h:SatL H L)(hb:bytes*c≤281474976710656)(h63:c≤1099511627776)
  (k:∀a H',SatL H' (slA e sz a 0 c []::L)→K (.slice a 0 c) H'):RunW P (Instr.makeSlice t (.int kl 0) (.int kc (c:Int))) H K:=by
 obtain⟨ht,hsz,i,z,hi,hz,rfl,rfl,hzs⟩:=T;intro w hw0;subst hw0;have hb':(i.bytes:Int)*(c:Int)≤281474976710656:=by
  have h:((i.bytes*c:Nat):Int)≤281474976710656:=by omega
  rwa [z7h] at h
 have hr:=run_make (P:=P) w t e i z ht hi hz kl kc 0 c (z5z _) (by omega) hb' (by omega);simp only [Int.toNat_zero,z5a] at hr;refine⟨_,_,hr,⟨rfl,rfl,rfl⟩,k _ _ ?_⟩;have hp:SatL _ _:=h.push (.cells (madeCells z.cells (c*i.size)) e (0,0));refine SatL.mono hp fun p hp=>⟨by simp,.inr ⟨_,[],(madeCells z.cells (c*i.size)).toList,e,(0,0),rfl,z5s _,?_,fun _ j _ _ hh=>by simp at hh,by simpa using hp⟩⟩
 rw [z6i,size_madeCells,Nat.sub_zero];exact z5c _
theorem SatL.mk1 {P:Program}{t bytes:Nat}(T:SlT P t e 1 bytes){z0:Value}(hz0:qw1 P e=some z0)(h1:z0.cells=#[z0]){K:Value→Heap→Prop}{kl kc:IntKind}{c:Nat}(h:SatL H L)(hb:bytes*c≤281474976710656)(h63:c≤1099511627776)
  (k:∀a H',SatL H' (slA e 1 a c c (List.replicate c z0)::L)→K (.slice a c c) H'):RunW P (Instr.makeSlice t (.int kl (c:Int)) (.int kc (c:Int))) H K:=by
 obtain⟨ht,hsz,i,z,hi,hz,hs1,rfl,hzs⟩:=T;intro w hw0;subst hw0;have hb':(i.bytes:Int)*(c:Int)≤281474976710656:=by
  have h:((i.bytes*c:Nat):Int)≤281474976710656:=by omega
  rwa [z7h] at h
 have hr:=run_make (P:=P) w t e i z ht hi hz kl kc c c (by omega) (z5z _) hb' (by omega);simp only [z5a] at hr;have ez:z=z0:=by
  unfold qw1 at hz0;rw [hi] at hz0;simpa [hz] using hz0
 subst ez;refine⟨_,_,hr,⟨rfl,rfl,rfl⟩,k _ _ ?_⟩;have hp:SatL _ _:=h.push (.cells (madeCells z.cells (c*i.size)) e (0,0));have e2:(madeCells z.cells (c*i.size))=(List.replicate c z).toArray:=by
  rw [hs1,z6w,h1];unfold madeCells;apply Array.ext
  ·simp
  ·intro j h3 h4;simp [Nat.mod_one]
 rw [e2] at hp ⊢;exact SatL.sl_pt (e:=e) hp 1 c (by simp)
end
open Go
theorem qhe {P:Program}{t:TypeId}{xs ys:List Value}{r:Bool}(h:q9h P t xs ys=some r)(w:World):(Op.equalIn 10000 t (.agg ⟨xs⟩) (.agg ⟨ys⟩)).run P w=.ok r w:=by
 unfold q9h at h
 split at h
 ·rename_i fs hu
  split at h
  ·rename_i hg;have hf:P.fieldsOf t=fs:=by simp [Program.fieldsOf,hu]
   have hu':P.underlying t=some (.struct (P.fieldsOf t)):=by rw [hf]; exact hu
   show (Op.equalIn (9998+1+1) t (.agg ⟨xs⟩) (.agg ⟨ys⟩)).run P w=.ok r w;generalize 9998=n;rw [run_equalIn_struct w (n+1) t ⟨xs⟩ ⟨ys⟩ hu' hg.1,hf];exact qbl n h
  ·cases h
 ·cases h
theorem z1q {P:Program}{em:Bool}{n:Nat}{t:TypeId}{v:Value}(h:q1s (P.underlying t) v=true)(w:World):(Instr.checkKey em (n+1) t v).run P w=.ok () w:=by
 cases hu:P.underlying t with
 | none=>rw [hu] at h; simp [q1s] at h
 | some d=>
  rw [hu] at h
  cases d <;> cases v <;> simp [q1s] at h <;> simp [Instr.checkKey,run_underlying hu]
def chkF (P:Program)(xs:List Value):List Field→Bool
 | []=>true
 | f::r=>(match lget xs f.offset with|some v=>q1s (P.underlying f.type) v|none=>false) && chkF P xs r
theorem qyg {P:Program}{em:Bool}{n:Nat}{t:TypeId}{xs:List Value}{fs:Array Field}(hu:P.underlying t=some (.struct fs))(h:chkF P xs fs.toList=true)(w:World) :
  (Instr.checkKey em (n+1+1) t (.agg ⟨xs⟩)).run P w=.ok () w:=by
 rw [Instr.checkKey];simp only [Sem.run_bind,run_underlying hu,Result.andThen_ok];rw [← Array.forIn_toList];generalize fs.toList=l at h
 induction l with
 | nil=>simp
 | cons f r ih=>
  simp only [chkF,z56] at h;have ih:=ih h.2;have h1:=h.1
  split at h1
  ·rename_i v hv;have hp:=q9i (w:=w) h1 hv;have hc:=z1q (em:=em) (n:=n) h1 w;rw [List.forIn_cons]
   by_cases hn:f.name= "_"
   ·simp only [hn,ne_eq,not_true_eq_false,if_false,Sem.run_bind,Sem.run_pure,Result.andThen_ok];exact ih
   ·simp only [hn,ne_eq,not_false_eq_true,if_true,Sem.run_bind,Sem.run_pure,hp,hc,Result.andThen_ok];exact ih
  ·cases h1
theorem qgk {κ:Type}[DecidableEq κ]{P:Program}{k:TypeId}{V:κ→Value}(heq:∀x y w,(Op.equal k (V x) (V y)).run P w=.ok (decide (x=y)) w)(x:κ)(w:World):∀(es:List MapEntry) (ks:List κ) (i:Nat),es.map (·.key)=ks.map V→
  (x∉ks→(Instr.findAsking k (V x) es i).run P w=.ok none w)∧∀j en,ks[j]?=some x→(∀l,l < j→ks[l]?≠some x)→es[j]?=some en→(Instr.findAsking k (V x) es i).run P w=.ok (some (i+j,en.val)) w
 | [],[],i,_=>⟨fun _=>by simp [Instr.findAsking],fun j e h=>by simp at h⟩
 | [],_::_,i,h=>by simp at h
 | _::_,[],i,h=>by simp at h
 | e0::es,y::ks,i,h=>by
  simp only [z5y,List.cons.injEq] at h;obtain⟨ih1,ih2⟩:=qgk heq x w es ks (i+1) h.2;have hq:=heq x y w;rw [← h.1] at hq
  by_cases e:x=y
  ·subst e;refine⟨fun hx=>absurd (by simp) hx,fun j e1 hj hl he=>?_⟩
   have:j=0:=by
    cases j with
    | zero=>rfl
    | succ j=>exact absurd rfl (hl 0 (by omega))
   subst this;simp at he; subst he;simp [Instr.findAsking,Sem.run_bind,hq]
  ·refine⟨fun hx=>?_,fun j e1 hj hl he=>?_⟩
   ·simp only [z5l,not_or] at hx;simp [Instr.findAsking,Sem.run_bind,hq,e,ih1 hx.2]
   ·cases j with
    | zero=>simp at hj; exact absurd hj.symm e
    | succ j=>
     have:=ih2 j e1 (by simpa using hj) (fun l hl'=>by simpa using hl (l+1) (by omega)) (by simpa using he)
     simp only [Instr.findAsking,Sem.run_bind,hq,e,decide_false,Result.andThen_ok,z7a,if_false,this];rw [show i+1+j=i+(j+1) by omega]
theorem qju {d:TypeDesc}(x:Value)(hx:∃a,x=.agg a):∀(es:List MapEntry) (i:Nat),es≠[]→Instr.findNow d x es i=none
 | [],_,h=>absurd rfl h
 | e0::es,i,_=>by
  obtain⟨a,rfl⟩:=hx;have:Instr.sameNow d (.agg a) e0.key=none:=by cases d <;> rfl
  simp [Instr.findNow,this]
theorem qqv {κ:Type}[DecidableEq κ]{P:Program}{k:TypeId}{fs:Array Field}{enc:κ→List Value}(hu:P.underlying k=some (.struct fs))(hi:∀x y,enc x=enc y→x=y)
  (hq:∀x y,q9h P k (enc x) (enc y)=some (decide (x=y))) (hc:∀x,chkF P (enc x) fs.toList=true) (hb:∀x n,Instr.sameBits (n+1+1) (.agg ⟨enc x⟩) (.agg ⟨enc x⟩)=true):qo7 P k (fun x=>.agg ⟨enc x⟩) where
 inj x y h:=hi x y (by simpa using h)
 chk em x w:=qyg (n:=9998) hu (hc x) w
 non x ks es w hk2 hx:=by
  simp only [Instr.findKey,Sem.run_bind,run_underlying hu,Result.andThen_ok]
  cases es with
  | nil=>simp [Instr.findNow]
  | cons e0 r=>
   rw [qju (.agg ⟨enc x⟩) ⟨_,rfl⟩ (e0::r) 0 (by simp)];exact (qgk (V:=fun x=>.agg ⟨enc x⟩) (fun x y w=>qhe (hq x y) w) x w _ ks 0 hk2).1 hx
 fnd x ks es w i en hk2 h1 h2 h3:=by
  simp only [Instr.findKey,Sem.run_bind,run_underlying hu,Result.andThen_ok]
  cases es with
  | nil=>simp at h3
  | cons e0 r=>
   rw [qju (.agg ⟨enc x⟩) ⟨_,rfl⟩ (e0::r) 0 (by simp)];have:=(qgk (V:=fun x=>.agg ⟨enc x⟩) (fun x y w=>qhe (hq x y) w) x w _ ks 0 hk2).2 i en h1 h2 h3
   rw [z5p] at this;exact this
 stay x w:=by simp [Instr.keyThatStays,hb x 9998]
open Go
def q35 (s:ByteArray):List Int:=s.data.toList.map fun b=>(b.toNat:Int)
theorem q5i (s:ByteArray):(q35 s).length=s.size:=by
 rw [q35,z5q,z6i]; rfl
theorem z1r (s:ByteArray):∀x∈q35 s,0≤x∧x < 256:=by
 intro x hx;simp only [q35,z5b] at hx;obtain⟨b,_,rfl⟩:=hx;have:=b.toNat_lt;omega
section
variable {H:Heap} {F:Assn} {e sz n c:Nat} {a:Option Addr} {cs:List Value}
theorem qbm {P:Program}(s:ByteArray)(size:Nat)(w:World):(Builtin.firstCells size s.size (.string s)).run P w=.ok (((q35 s).map U8).toArray) w:=by
 have h1:s.extract 0 s.size=s:=by simp
 have h2:s.data.map (fun b=>Value.int .u8 b.toNat)=((q35 s).map U8).toArray:=by
  apply Array.ext';rw [Array.toList_map,List.toList_toArray,q35,z68];rfl
 simp only [Builtin.firstCells,h1,h2];rfl
theorem qtn {P:Program}{t ts bytes ty:Nat}(T:SlT P t e 1 bytes)(hts:P.underlying ts=some .string){s:ByteArray}{K:Value→Heap→Prop}(h:Sat H (slA e 1 a n c cs*F))
  (hb:(n+s.size)*bytes≤140737488355328) (hn:n+s.size≤140737488355328)
  (k:∀a' c' H',Sat H' (slA e 1 a' (n+s.size) c' (cs++(q35 s).map U8)*F)→K (.slice a' (n+s.size) c') H') :
  RunW P (Builtin.append_ #[t,ts] ty #[.slice a n c,.string s]) H K:=by
 obtain⟨ht,hsz,i,z,hi,hz,hs1,rfl,hzs⟩:=T;intro w hw0;subst hw0;obtain⟨hlen,h2⟩:=q3r h;have hl:((q35 s).map U8).length=s.size:=by rw [z5q,q5i]
 have hp:q07 ((q35 s).map U8)=true:=qev (fun _=>rfl) _
 have h63:¬(9223372036854775807 < (n:Int)+(s.size:Int)):=by omega
 have hfw:=qbm (P:=P) s i.size w;have hfd:=qbm (P:=P) s i.size w.drew;have hfo:=q4m (P:=P) (w:=w.drew) (a2:=a) (m:=n) (c2:=c) (z1j h) hlen;generalize hws:(q35 s).map U8=ws at *;rw [← hs1] at hlen h2 hzs hfo
 by_cases hroom:n+s.size≤c
 ·rcases h2 with ⟨h2,h3,h4,h5⟩|⟨b,pre,post,e',fr,h2,h3,h4,hf,h5⟩
  ·subst h2; subst h3; subst h4;have h0:s.size=0:=by omega
   obtain rfl:ws=[]:=z6r (by omega);obtain rfl:cs=[]:=z6r (by simpa using hlen);refine⟨.slice none (0+s.size) 0,w,?_,Rest.refl w,k _ _ _ ?_⟩
   ·rw [h0] at hfw;simp [Builtin.append_,run_underlying ht,run_underlying hts,sizeOf,typeInfo,hi,Builtin.lenOf,h0,hfw]
   ·rw [h0]; exact qjk h5
  ·subst h2;have hs1':i.size=1:=hs1.symm▸rfl;have hfit:ws.length≤post.length:=by
    rw [hs1'] at h4;omega
   have hcan:q57 w.heap b (pre.length+n*i.size) ws:=h5.canG ws _ (by rw [hs1'] at hlen ⊢; simp [hlen]; rw [hs1'] at h4; omega) fun j h6 h7=>hf j (by omega) (by rw [hs1'] at h7 ⊢; omega)
   obtain⟨w',h6,h7,h8⟩:=q3k (P:=P) (b:=b) ws (pre.length+n*i.size) 0 w (by simpa using hcan) (by simpa using q7s _ _ hcan) hp;refine⟨.slice (some ⟨b,pre.length,none⟩) (n+s.size) c,w',?_,h7,k _ _ _ ?_⟩
   ·simp [Builtin.append_,run_underlying ht,run_underlying hts,sizeOf,typeInfo,hi,Builtin.lenOf,hroom,hfw,q47,h6]
   ·rw [h8];have h9:=Sat.setsG ws (pre.length+n*i.size) h5;have e1:pre.length+n*i.size=(pre++cs).length:=by simp [hlen]
    rw [e1,q7t _ _ _ hfit] at h9;rw [z71,e1];rw [hs1'] at hlen h4;refine h9.frame fun p hp=>⟨by simp [hlen,hl],.inr ⟨b,pre,post.drop ws.length,e',fr,rfl,hroom,?_,fun h=>by rw [hs1'] at hf; exact hf,by simpa using hp⟩⟩
    rw [z5u,hl];omega
 ·have h48:¬(281474976710656 < Builtin.nextslicecap (n+s.size) c*i.bytes):=by
   have:=growslice_fits (need:=n+s.size) (old:=c) (bytes:=i.bytes) (by omega) hb;omega
  refine⟨.slice (some ⟨w.heap.size,0,none⟩) (n+s.size) (grownCap w (n+s.size) c e),w.drew.alloc (.cells (cs.toArray++ws.toArray++Builtin.zeroCells z.cells (grownCap w (n+s.size) c e - (n+s.size))) e),?_,⟨rfl,rfl,rfl⟩,k _ _ _ ?_⟩
  ·simp [Builtin.append_,run_underlying ht,run_underlying hts,sizeOf,typeInfo,zeroValue,hi,hz,Builtin.lenOf,hroom,h63,h48,Question.forced,hfo,hfd,newRow,grownCap];congr 2;apply Array.ext';simp [z5d]
  ·have h5:Sat w.heap F:=h.drop';have h6:=h5.push (.cells (cs.toArray++ws.toArray++Builtin.zeroCells z.cells (grownCap w (n+s.size) c e - (n+s.size))) e);have hge:=grownCap_ge w (n+s.size) c e;have hs1':i.size=1:=hs1.symm▸rfl;rw [hs1'] at hlen hzs;refine h6.frame fun p hp=>⟨by simp [hlen,hl],.inr ⟨w.heap.size,[],(Builtin.zeroCells z.cells (grownCap w (n+s.size) c e - (n+s.size))).toList,e,(0,0),rfl,hge,?_,fun _ i _ _ hh=>by simp at hh,?_⟩⟩
   ·rw [z6i,size_zeroCells,hzs];exact z5c _
   ·have e2:(([]:List Value)++(cs++ws)++(Builtin.zeroCells z.cells (grownCap w (n+s.size) c e - (n+s.size))).toList).toArray=cs.toArray++ws.toArray++Builtin.zeroCells z.cells (grownCap w (n+s.size) c e - (n+s.size)):=by
     apply Array.ext'; simp
    rw [e2];exact hp
end
theorem SatL.appendS {P:Program}{t ts bytes ty e n c:Nat}{a:Option Addr}{cs:List Value}{H:Heap}{L:List Assn}(T:SlT P t e 1 bytes)(hts:P.underlying ts=some .string){s:ByteArray}{K:Value→Heap→Prop}(h:SatL H L)(i:Nat)(hA:nth i L=slA e 1 a n c cs)
  (hb:(n+s.size)*bytes≤140737488355328) (hn:n+s.size≤140737488355328)
  (k:∀a' c' H',SatL H' (put i (slA e 1 a' (n+s.size) c' (cs++(q35 s).map U8)) L)→K (.slice a' (n+s.size) c') H') :
  RunW P (Builtin.append_ #[t,ts] ty #[.slice a n c,.string s]) H K:=by
 have h2:=h.foc i;rw [hA] at h2;exact qtn T hts h2 hb hn fun a' c' H' h3=>k a' c' H' (SatL.back h3)
open Go
def qez (P:Program)(e:TypeId)(xs ys:List Value):List Nat→Option Bool
 | []=>some true
 | i::r=>match lget xs i,lget ys i with
  | some a,some b=>if q1s (P.underlying e) a && q1s (P.underlying e) b then
    match qoa a b,qez P e xs ys r with
    | some p,some s=>some (p && s)
    | _,_=>none
   else none
  | _,_=>none
def arrEqB (P:Program)(t:TypeId)(xs ys:List Value):Option Bool:=
 match P.underlying t with
 | some (.array n e)=>if P.cellsOf e=1∧P.eqGuardType P.depth t=false∧(P.info? e).isSome=true then qez P e xs ys (List.range n) else none
 | _=>none
theorem qjv {P:Program}{w:World}{e:TypeId}{xs ys:List Value}(d:Nat):∀{is:List Nat} {r:Bool},qez P e xs ys is=some r→(Op.eqItems (d+1) e 1 ⟨xs⟩ ⟨ys⟩ is).run P w=.ok r w
 | [],r,h=>by simp [qez] at h; subst h; simp [Op.eqItems]
 | i::is,r,h=>by
  simp only [qez] at h
  split at h
  ·rename_i a b hx hy
   split at h
   ·rename_i hp;simp only [z56] at hp
    split at h
    ·rename_i r1 s hr hs
     cases h
     simp only [Op.eqItems,z6w,Sem.run_bind,q9i hp.1 hx,q9i hp.2 hy,Result.andThen_ok,qjr hp.1 hp.2 hr]
     cases r1
     ·simp
     ·simp [qjv d hs]
    ·cases h
   ·cases h
  ·cases h
theorem qjw {P:Program}{t:TypeId}{xs ys:List Value}{r:Bool}(h:arrEqB P t xs ys=some r):q7d P .eql t (.agg ⟨xs⟩) (.agg ⟨ys⟩) r∧q7d P .neq t (.agg ⟨xs⟩) (.agg ⟨ys⟩) (!r):=by
 unfold arrEqB at h
 split at h
 ·rename_i n e hu
  split at h
  ·rename_i hg;obtain⟨i,hi⟩:=z81.1 hg.2.2;have he:∀w,(Op.equalIn 10000 t (.agg ⟨xs⟩) (.agg ⟨ys⟩)).run P w=.ok r w:=by
    intro w;show (Op.equalIn (9998+1+1) t (.agg ⟨xs⟩) (.agg ⟨ys⟩)).run P w=.ok r w;generalize 9998=n;rw [run_equalIn_array w (n+1) ⟨xs⟩ ⟨ys⟩ hu hi,hg.1];exact qjv n h
   constructor
   ·intro ox oy w;simp only [Sem.run_bind,run_eqGuard_agg w .eql t ox oy ⟨xs⟩ ⟨ys⟩ hg.2.1,Result.andThen_ok,run_eql_struct,he]
   ·intro ox oy w;simp only [Sem.run_bind,run_eqGuard_agg w .neq t ox oy ⟨xs⟩ ⟨ys⟩ hg.2.1,Result.andThen_ok,run_neq_struct,he]
  ·cases h
 ·cases h
open Go Go.ChangeShapes Go.WideShapes Go.ChangeAt Go.RowKit
section
variable {H:Type} {enc:TypeId × Value→H} {P:Program}
theorem qlm {f:Func}{s:ChangeSpec}{apart fresh handsOn again:Bool}{W W':World}{args:Array Value}{v:Value}{ds gs:List (DataW H)}{before pa pv:List MemPlace}
  (hW:DataW.Whole enc P f.params.toList s.vars apart W args.toList ds gs before)
  (hres:∀(b:Nat) (sp:Nat→Bool) (hd:Bool),DataW.TrodAll enc P W' b sp hd f.resultTypes.toList (v.resultList f.resultTypes.size) (s.fn H (ds++gs)).results [])
  (hargs:∀sp:Nat→Bool,(∀p∈before,sp p.block=true)→DataW.TrodAll enc P W' 0 sp true f.params.toList args.toList (s.fn H (ds++gs)).args pa)
  (hvars:∀sp:Nat→Bool,(∀p∈before,sp p.block=true)→DataW.TrodVars enc P W' sp s.vars (s.fn H (ds++gs)).vars pv)
  (hps:before=pa++pv) (hb:Below W.heap.size W W')
  (hok:∀(j:Nat) (t:TypeId) (r:Value),f.resultTypes[j]?=some t→(v.resultList f.resultTypes.size)[j]?=some r→Value.okWide P W' .any 0 t r) :
  s.post enc P f apart fresh handsOn again W args v W':=by
 have hlt:∀p∈before,p.block < W.heap.size:=fun p hp=>hW.lt p hp
 have hold:∀p∈before,(fun b=>decide (b < W.heap.size)) p.block=true:=fun p hp=>by simpa using hlt p hp
 refine⟨ds,gs,before,[],pa,pv,hW,hres _ _ _,hargs _ hold,hvars _ hold,World.keptBut_mono (fun p hp=>⟨hp,?_⟩) (hb.frame (·∈before)),fun _=>?_⟩
 ·rw [hps,z6g] at hp;exact Or.inr hp
 ·obtain⟨_,_,_,_,_,hz,hn⟩:=hW;refine⟨hok,_,_,([]++pa)++pv,⟨[]++pa,pv,trodAll_append (hargs _ (fun _ _=>rfl)) (hres _ _ _),hvars _ (fun _ _=>rfl),rfl,?_,?_⟩,?_⟩
  ·intro b off hp;have hin:MemPlace.cell b off∈before:=by rw [hps]; simpa using hp
   rw [hb.frozen (hlt _ hin)];exact hz b off hin
  ·intro ha;have:=hn ha;rw [hps] at this;simpa using this
  ·intro p hp _;rw [hps];simpa using hp
theorem qf0 (hl:laidOutB P=true){W W':World}(hb:Below W.heap.size W W'){sp:Nat→Bool}:∀{ts:List TypeId} {vs:List Value} {ds:List (DataW H)} {ps:List MemPlace},(∀t∈ts,P.readableRec t=true∧t < P.types.size)→
  DataW.TrodAll enc P W 0 (fun _=>true) true ts vs ds ps→(∀x∈ps,x.block < W.heap.size)→(∀x∈ps,sp x.block=true)→DataW.TrodAll enc P W' 0 sp true ts vs ds ps
 | [],[],[],_,_,h,_,_=>h
 | [],[],_::_,_,_,h,_,_=>h.elim
 | [],_::_,_,_,_,h,_,_=>h.elim
 | _::_,[],_,_,_,h,_,_=>h.elim
 | _::_,_::_,[],_,_,h,_,_=>h.elim
 | t::ts,v::vs,d::ds,ps,hr,h,hlt,hsp=>by
  obtain⟨p,q,h1,h2,rfl⟩:=h;have hr1:=hr t (by simp);exact⟨p,q,Go.WideElems.Trod_stays hl hr1.1 hr1.2 h1 (fun x hx=>hb.same (hlt x (by simp [hx]))) (fun x hx=>hsp x (by simp [hx])),qf0 hl hb (fun t ht=>hr t (by simp [ht])) h2 (fun x hx=>hlt x (by simp [hx])) (fun x hx=>hsp x (by simp [hx])),rfl⟩
theorem z1s {w w':World}(g:Grow w.heap w'.heap)(r:Rest w w'):Below w.heap.size w w':=⟨r.os,r.tape,r.output,g.size,fun k hk=>g k hk⟩
theorem law_post (laid:laidOutB P=true){fid:FuncId}{f:Func}{s:ChangeSpec}{apart fresh handsOn again:Bool}{W:World}{args:Array Value}{ds gs:List (DataW H)}{before:List MemPlace}{tb:TypeId}
  (hW:DataW.Whole enc P f.params.toList s.vars apart W args.toList ds gs before) (hvars:s.vars=[]) (hres:f.resultTypes=#[tb]) (hbool:P.underlying tb=some .bool)
  (hfn:(s.fn H (ds++gs))={ results:=[.lit (.bool true)],args:=ds }) (hread:f.params.toList.all (fun t=>P.readableRec t && decide (t < P.types.size))=true)
  (hc:qg9 P fid args W.heap fun v H'=>v=.bool true∧Grow W.heap H') :
  Calls P fid args W fun e W'=>∃v,e=.returned v∧s.post enc P f apart fresh handsOn again W args v W':=by
 refine (hc W rfl).mono fun e W' he=>?_
 cases e <;> simp only [Fin] at he
 obtain⟨hrest,rfl,hg⟩:=he;have hb:=z1s hg hrest;refine⟨_,rfl,?_⟩;have hW':=hW;obtain⟨p,q,hA,hV,hbe,hfz,hnd⟩:=hW;rw [hvars] at hV;obtain⟨rfl,rfl⟩:=trodVars_none hV;have hread':∀t∈f.params.toList,P.readableRec t=true∧t < P.types.size:=fun t ht=>by
  have:=z69.1 hread t ht;simpa using this
 refine qlm (pa:=p) (pv:=[]) hW' (fun _ _ _=>?_) (fun sp hsp=>?_) (fun sp _=>?_) hbe hb (ok_one hres rfl (okWide_bool_mk hbool _))
 ·rw [hfn,hres];exact trodAll_cons_mk (shut_bool hbool _) trodAll_mk0
 ·rw [hfn];have hlt:∀x∈p,x.block < W.heap.size:=fun x hx=>hW'.lt x (by rw [hbe]; simp [hx])
  exact qf0 laid hb hread' hA hlt (fun x hx=>hsp x (by rw [hbe]; simp [hx]))
 ·rw [hvars,hfn]; rfl
end
def qjx {H:Type}(enc:TypeId × Value→H)(P:Program)(W:World)(t:TypeId)(cs:List Value):Prop:=∃fuel x,DataW.trod enc P W 0 (fun _=>true) true fuel t cs=some x
section
variable {H:Type} {enc:TypeId × Value→H} {P:Program} {W:World}
theorem q4o {t:TypeId}{k:IntKind}{cs:List Value}(ht:P.underlying t=some (.int k))(h:qjx enc P W t cs):∃n,cs=[.int k n]∧k.min≤n∧n≤k.max:=by
 obtain⟨fuel,x,h⟩:=h;obtain⟨n,h1,_,h2⟩:=DataW.trod_int ht h;simp only [Lit.wf,z56,z52] at h2;exact⟨n,h1,h2.1,h2.2⟩
theorem qqw {t:TypeId}{fs:Array Field}{cs:List Value}(ht:P.underlying t=some (.struct fs))(h:qjx enc P W t cs) :
  cs.length=P.cellsOf t∧∀f∈fs.toList,qjx enc P W f.type ((cs.drop f.offset).take (P.cellsOf f.type)):=by
 obtain⟨fuel,x,h⟩:=h;obtain⟨xs,n,_,_,h1,h2,h3⟩:=DataW.trod_struct ht h;refine⟨h1,fun f hf=>?_⟩
 obtain⟨i,hi⟩:=List.getElem?_of_mem hf;have hi':fs[i]?=some f:=by simpa using hi
 have hlt:i < xs.length:=by rw [h2]; have:=(List.getElem?_eq_some_iff.1 hi).1; simpa using this
 have:=h3 i f hi';rw [List.getElem?_eq_getElem hlt] at this;exact⟨n,_,this⟩
theorem qw8 {α β:Type}{f:α→Option β}:∀{l:List α} {r:List β},l.mapM f=some r→r.length=l.length∧∀(i:Nat) x,l[i]?=some x→f x=r[i]?
 | [],r,h=>by simp at h; subst h; simp
 | a::l,r,h=>by
  rw [List.mapM_cons] at h
  cases hf:f a with
  | none=>simp [hf] at h
  | some b=>
   cases hg:l.mapM f with
   | none=>simp [hf,hg] at h
   | some bs=>
    simp [hf,hg] at h;subst h;obtain⟨h1,h2⟩:=qw8 hg;refine⟨by simp [h1],fun i x hx=>?_⟩
    cases i with
    | zero=>simp at hx; subst hx; simpa using hf
    | succ i=>simpa using h2 i x (by simpa using hx)
theorem cells?_spec {base:Nat}{a:Addr}{n:Nat}{vs:List Value}(h:W.cells? base a n=some vs):vs.length=n∧∀j v,lget vs j=some v→W.cell? (a.add j)=some v:=by
 unfold World.cells? at h
 split at h
 ·obtain⟨h1,h2⟩:=qw8 h;rw [List.length_range] at h1;refine⟨h1,fun j v hj=>?_⟩
  have hlt:=qbg hj;rw [h2 j j (by rw [List.getElem?_range (by omega)]),← q1c]; exact hj
 ·cases h
theorem cell?_at {a:Addr}{v:Value}(h:W.cell? a=some v):a=⟨a.block,a.off,none⟩∧q00 W.heap a.block a.off=some v:=by
 unfold World.cell? at h
 split at h
 ·rename_i c x y hb
  split at h
  ·cases h
  ·rename_i hs;refine⟨?_,by unfold q00; rw [hb]; exact h⟩;obtain⟨b,o,s⟩:=a
   cases s <;> simp_all
 ·cases h
theorem qto {t e:TypeId}{cs:List Value}(ht:P.underlying t=some (.slice e))(hs:0 < P.cellsOf e)(h:qjx enc P W t cs) :
  ∃a n c,cs=[.slice a n c]∧n≤c∧c≤maxLen∧∀i,i < n→∃vs,qjx enc P W e vs∧vs.length=P.cellsOf e∧a=some ⟨adrB a,adrO a,none⟩∧∀f v,lget vs f=some v→q00 W.heap (adrB a) (adrO a+i*P.cellsOf e+f)=some v:=by
 obtain⟨fuel,x,h⟩:=h
 rcases DataW.trod_slice ht h with ⟨h1,_⟩|⟨a,len,cap,elems,rest,n,_,h1,_,hb,hl,hm,hel,he,_⟩
 ·exact⟨none,0,0,h1,z5c _,z5s _,fun i hi=>absurd hi (by omega)⟩
 ·have each:∀i,i < len→∃vs,W.cells? 0 (a.add (i*P.cellsOf e)) (P.cellsOf e)=some vs∧qjx enc P W e vs:=by
   intro i hi;have h2:=he i hi;rw [List.getElem?_eq_getElem (by omega)] at h2;obtain⟨vs,h3,h4⟩:=Option.bind_eq_some_iff.1 h2;exact⟨vs,h3,n,_,h4⟩
  refine⟨some a,len,cap,h1,hl,hm,fun i hi=>?_⟩
  have hspot:a=⟨a.block,a.off,none⟩:=by
   obtain⟨vs,h3,_⟩:=each 0 (by omega);obtain⟨h4,h5⟩:=cells?_spec h3;have h6:=h5 0 _ (qes (by omega));simp only [Nat.zero_mul] at h6;have h7:(a.add 0).add 0=a:=by simp [Addr.add]
   rw [h7] at h6;exact (cell?_at h6).1
  obtain⟨vs,h3,h4⟩:=each i hi;obtain⟨h5,h6⟩:=cells?_spec h3;refine⟨vs,h4,h5,by rw [adrB,adrO,← hspot],fun f v hf=>?_⟩
  have h7:=h6 f v hf;rw [hspot,q47,q47] at h7;exact (cell?_at h7).2
theorem z1t {α:Type}{n:Nat}{Q:Nat→α→Prop}(h:∀i,i < n→∃x,Q i x):∃xs:List α,xs.length=n∧∀i (hi:i < xs.length),Q i xs[i]:=by
 induction n with
 | zero=>exact⟨[],rfl,fun i hi=>absurd hi (by simp)⟩
 | succ n ih=>
  obtain⟨xs,h1,h2⟩:=ih fun i hi=>h i (by omega)
  obtain⟨x,hx⟩:=h n (by omega);refine⟨xs++[x],by simp [h1],fun i hi=>?_⟩
  by_cases e:i < xs.length
  ·rw [List.getElem_append_left e]; exact h2 i e
  ·have:i=n:=by simp at hi; omega
   subst this;rw [List.getElem_append_right (by omega)];simp [h1]; exact hx
theorem qyh {α:Type}{ec:α→List Value}{Q:α→Prop}{t e sz:TypeId}{cs:List Value}(ht:P.underlying t=some (.slice e))(hs:P.cellsOf e=sz)(hp:0 < sz)(h:qjx enc P W t cs)
  (el:∀vs,qjx enc P W e vs→vs.length=sz→∃x,vs=ec x∧Q x) (hec:∀x,(ec x).length=sz) :
  ∃a c xs,cs=[.slice a xs.length c]∧xs.length≤maxLen∧rdS W.heap a (flat ec xs)∧∀x∈xs,Q x:=by
 subst hs;obtain⟨a,n,c,h1,h2,h3,h4⟩:=qto ht hp h;have h5:∀i,i < n→∃x:α,Q x∧a=some ⟨adrB a,adrO a,none⟩∧∀f v,lget (ec x) f=some v→q00 W.heap (adrB a) (adrO a+i*P.cellsOf e+f)=some v:=by
  intro i hi;obtain⟨vs,r1,r2,r3,r4⟩:=h4 i hi;obtain⟨x,rfl,hq⟩:=el vs r1 r2;exact⟨x,hq,r3,r4⟩
 obtain⟨xs,h6,h7⟩:=z1t h5;refine⟨a,c,xs,by rw [h6]; exact h1,by omega,fun j v hj=>?_,fun x hx=>?_⟩
 ·have hlt:=qbg hj;rw [q0m hec] at hlt;have hk:j / P.cellsOf e < xs.length:=Nat.div_lt_of_lt_mul (by rw [Nat.mul_comm]; exact hlt);have hf:j % P.cellsOf e < P.cellsOf e:=z6j _ hp;have hj2:j / P.cellsOf e*P.cellsOf e+j % P.cellsOf e=j:=by rw [Nat.mul_comm]; exact Nat.div_add_mod _ _
  obtain⟨_,g1,g2⟩:=h7 _ hk;refine⟨g1,?_⟩;have:=g2 (j % P.cellsOf e) v (by rw [← qeu hec hk _ hf,hj2]; exact hj);rw [z6e,hj2] at this;exact this
 ·obtain⟨i,hi,rfl⟩:=z7d hx;exact (h7 i hi).1
theorem args_cons {t:TypeId}{ts:List TypeId}{vs:List Value}{ds:List (DataW H)}{ps:List MemPlace}(h:DataW.TrodAll enc P W 0 (fun _=>true) true (t::ts) vs ds ps) :
  ∃v r d ds' ps',vs=v::r∧ds=d::ds'∧qjx enc P W t v.cells.toList∧DataW.TrodAll enc P W 0 (fun _=>true) true ts r ds' ps':=by
 cases vs with
 | nil=>exact h.elim
 | cons v r=>
  cases ds with
  | nil=>exact h.elim
  | cons d ds'=>
   obtain⟨p,q,⟨fuel,h1⟩,h2,_⟩:=h;exact⟨v,r,d,ds',q,rfl,rfl,⟨fuel,_,h1⟩,h2⟩
theorem args_nil {vs:List Value}{ds:List (DataW H)}{ps:List MemPlace}(h:DataW.TrodAll enc P W 0 (fun _=>true) true [] vs ds ps):vs=[]:=by
 cases vs with
 | nil=>rfl
 | cons v r=>exact h.elim
end
end Go.Nm
namespace Go.Proofs
open Go.Shelf
def Tryz.keysA_ren:Go.Shelf.Ren:=⟨fun|7=>123|10=>178|n=>n,fun|23=>206|26=>2|3=>78|28=>219|0=>0|27=>218|33=>189|4=>4|n=>n,fun|n=>n⟩
theorem Tryz.keysA:Go.Proofs.SlLaysZI.n7 Tryz.prog Tryz.keysA_ren:={
 mixed:=by kernel_rfl
 f7:=⟨Tryz.f123.name,by decide,Tryz.func123.trans (congrArg some (by kernel_rfl))⟩
 f10:=⟨Tryz.f178.name,by decide,Tryz.func178.trans (congrArg some (by kernel_rfl))⟩
 t0:=Tryz.underlying0
 a0:=Tryz.isAgg0
 z0:=Tryz.sizeOf0
 v0:=Tryz.zeroValue0
 t4:=Tryz.underlying4
 a4:=Tryz.isAgg4
 z4:=Tryz.sizeOf4
 v4:=Tryz.zeroValue4
 t23:=Tryz.underlying206
 a23:=Tryz.isAgg206
 z23:=Tryz.sizeOf206
 v23:=Tryz.zeroValue206
 t26:=Tryz.underlying2
 a26:=Tryz.isAgg2
 z26:=Tryz.sizeOf2
 v26:=Tryz.zeroValue2
 t27:=Tryz.underlying218
 a27:=Tryz.isAgg218
 z27:=Tryz.sizeOf218
 v27:=Tryz.zeroValue218
 t28:=Tryz.underlying219
 a28:=Tryz.isAgg219
 z28:=Tryz.sizeOf219
 v28:=Tryz.zeroValue219
 t33:=Tryz.underlying189
 a33:=Tryz.isAgg189
 z33:=Tryz.sizeOf189
 v33:=Tryz.zeroValue189 }
def Tryz.keysA2_ren:Go.Shelf.Ren:=⟨fun|7=>154|10=>199|n=>n,fun|23=>209|26=>2|3=>95|28=>219|0=>0|27=>218|33=>189|4=>4|n=>n,fun|n=>n⟩
theorem Tryz.keysA2:Go.Proofs.SlLaysZI.n7 Tryz.prog Tryz.keysA2_ren:={
 mixed:=by kernel_rfl
 f7:=⟨Tryz.f154.name,by decide,Tryz.func154.trans (congrArg some (by kernel_rfl))⟩
 f10:=⟨Tryz.f199.name,by decide,Tryz.func199.trans (congrArg some (by kernel_rfl))⟩
 t0:=Tryz.underlying0
 a0:=Tryz.isAgg0
 z0:=Tryz.sizeOf0
 v0:=Tryz.zeroValue0
 t4:=Tryz.underlying4
 a4:=Tryz.isAgg4
 z4:=Tryz.sizeOf4
 v4:=Tryz.zeroValue4
 t23:=Tryz.underlying209
 a23:=Tryz.isAgg209
 z23:=Tryz.sizeOf209
 v23:=Tryz.zeroValue209
 t26:=Tryz.underlying2
 a26:=Tryz.isAgg2
 z26:=Tryz.sizeOf2
 v26:=Tryz.zeroValue2
 t27:=Tryz.underlying218
 a27:=Tryz.isAgg218
 z27:=Tryz.sizeOf218
 v27:=Tryz.zeroValue218
 t28:=Tryz.underlying219
 a28:=Tryz.isAgg219
 z28:=Tryz.sizeOf219
 v28:=Tryz.zeroValue219
 t33:=Tryz.underlying189
 a33:=Tryz.isAgg189
 z33:=Tryz.sizeOf189
 v33:=Tryz.zeroValue189 }
def Tryz.keysA3_ren:Go.Shelf.Ren:=⟨fun|7=>227|10=>264|n=>n,fun|23=>116|26=>2|3=>80|28=>219|0=>0|27=>218|33=>189|4=>4|n=>n,fun|n=>n⟩
theorem Tryz.keysA3:Go.Proofs.SlLaysZI.n7 Tryz.prog Tryz.keysA3_ren:={
 mixed:=by kernel_rfl
 f7:=⟨Tryz.f227.name,by decide,Tryz.func227.trans (congrArg some (by kernel_rfl))⟩
 f10:=⟨Tryz.f264.name,by decide,Tryz.func264.trans (congrArg some (by kernel_rfl))⟩
 t0:=Tryz.underlying0
 a0:=Tryz.isAgg0
 z0:=Tryz.sizeOf0
 v0:=Tryz.zeroValue0
 t4:=Tryz.underlying4
 a4:=Tryz.isAgg4
 z4:=Tryz.sizeOf4
 v4:=Tryz.zeroValue4
 t23:=Tryz.underlying116
 a23:=Tryz.isAgg116
 z23:=Tryz.sizeOf116
 v23:=Tryz.zeroValue116
 t26:=Tryz.underlying2
 a26:=Tryz.isAgg2
 z26:=Tryz.sizeOf2
 v26:=Tryz.zeroValue2
 t27:=Tryz.underlying218
 a27:=Tryz.isAgg218
 z27:=Tryz.sizeOf218
 v27:=Tryz.zeroValue218
 t28:=Tryz.underlying219
 a28:=Tryz.isAgg219
 z28:=Tryz.sizeOf219
 v28:=Tryz.zeroValue219
 t33:=Tryz.underlying189
 a33:=Tryz.isAgg189
 z33:=Tryz.sizeOf189
 v33:=Tryz.zeroValue189 }
def Tryz.sortedA_ren:Go.Shelf.Ren:=⟨fun|6=>122|8=>176|9=>177|11=>211|13=>213|12=>212|23=>246|24=>152|14=>237|15=>238|16=>239|17=>240|18=>241|19=>242|20=>243|21=>244|22=>245|25=>271|26=>272|27=>273|28=>274|29=>275|30=>216|31=>285|n=>n,fun|26=>2|28=>219|24=>164|0=>0|3=>3|37=>251|48=>350|50=>56|4=>4|40=>343|39=>342|45=>347|5=>5|9=>9|51=>371|55=>374|57=>385|58=>386|33=>189|n=>n,fun|n=>n⟩
theorem Tryz.sortedA:Go.Proofs.SlLaysZI.n6 Tryz.prog Tryz.sortedA_ren:={
 mixed:=by kernel_rfl
 f6:=⟨Tryz.f122.name,by decide,Tryz.func122.trans (congrArg some (by kernel_rfl))⟩
 f8:=⟨Tryz.f176.name,by decide,Tryz.func176.trans (congrArg some (by kernel_rfl))⟩
 f11:=⟨Tryz.f211.name,by decide,Tryz.func211.trans (congrArg some (by kernel_rfl))⟩
 t0:=Tryz.underlying0
 a0:=Tryz.isAgg0
 z0:=Tryz.sizeOf0
 v0:=Tryz.zeroValue0
 t24:=Tryz.underlying164
 a24:=Tryz.isAgg164
 z24:=Tryz.sizeOf164
 v24:=Tryz.zeroValue164
 t26:=Tryz.underlying2
 a26:=Tryz.isAgg2
 z26:=Tryz.sizeOf2
 v26:=Tryz.zeroValue2
 t28:=Tryz.underlying219
 a28:=Tryz.isAgg219
 z28:=Tryz.sizeOf219
 v28:=Tryz.zeroValue219
 i26:=by kernel_rfl }
def Tryz.sortA_ren:Go.Shelf.Ren:=⟨fun|5=>177|8=>213|7=>212|19=>246|20=>152|10=>237|11=>238|12=>239|13=>240|14=>241|15=>242|16=>243|17=>244|18=>245|30=>271|31=>272|32=>273|33=>274|34=>275|35=>216|40=>285|n=>n,fun|23=>164|25=>2|3=>3|32=>251|22=>164|0=>0|44=>350|46=>56|4=>4|36=>343|35=>342|41=>347|5=>5|9=>9|53=>371|57=>374|63=>385|64=>386|n=>n,fun|n=>n⟩
theorem Tryz.sortA:Go.Proofs.SlLaysM.n5 Tryz.prog Tryz.sortA_ren:={
 mixed:=by kernel_rfl
 f5:=⟨Tryz.f177.name,by decide,Tryz.func177.trans (congrArg some (by kernel_rfl))⟩
 f7:=⟨Tryz.f212.name,by decide,Tryz.func212.trans (congrArg some (by kernel_rfl))⟩
 f8:=Tryz.func213.trans (congrArg some (by kernel_rfl))
 f10:=⟨Tryz.f237.name,by decide,Tryz.func237.trans (congrArg some (by kernel_rfl))⟩
 f11:=⟨Tryz.f238.name,by decide,Tryz.func238.trans (congrArg some (by kernel_rfl))⟩
 f12:=⟨Tryz.f239.name,by decide,Tryz.func239.trans (congrArg some (by kernel_rfl))⟩
 f13:=⟨Tryz.f240.name,by decide,Tryz.func240.trans (congrArg some (by kernel_rfl))⟩
 f14:=⟨Tryz.f241.name,by decide,Tryz.func241.trans (congrArg some (by kernel_rfl))⟩
 f15:=⟨Tryz.f242.name,by decide,Tryz.func242.trans (congrArg some (by kernel_rfl))⟩
 f16:=⟨Tryz.f243.name,by decide,Tryz.func243.trans (congrArg some (by kernel_rfl))⟩
 f17:=⟨Tryz.f244.name,by decide,Tryz.func244.trans (congrArg some (by kernel_rfl))⟩
 f18:=⟨Tryz.f245.name,by decide,Tryz.func245.trans (congrArg some (by kernel_rfl))⟩
 f19:=Tryz.func246.trans (congrArg some (by kernel_rfl))
 f20:=Tryz.func152.trans (congrArg some (by kernel_rfl))
 f30:=⟨Tryz.f271.name,by decide,Tryz.func271.trans (congrArg some (by kernel_rfl))⟩
 f31:=Tryz.func272.trans (congrArg some (by kernel_rfl))
 f32:=Tryz.func273.trans (congrArg some (by kernel_rfl))
 f33:=⟨Tryz.f274.name,by decide,Tryz.func274.trans (congrArg some (by kernel_rfl))⟩
 f34:=⟨Tryz.f275.name,by decide,Tryz.func275.trans (congrArg some (by kernel_rfl))⟩
 f35:=⟨Tryz.f216.name,by decide,Tryz.func216.trans (congrArg some (by kernel_rfl))⟩
 f40:=⟨Tryz.f285.name,by decide,Tryz.func285.trans (congrArg some (by kernel_rfl))⟩
 t0:=Tryz.underlying0
 a0:=Tryz.isAgg0
 z0:=Tryz.sizeOf0
 v0:=Tryz.zeroValue0
 t3:=Tryz.underlying3
 a3:=Tryz.isAgg3
 z3:=Tryz.sizeOf3
 v3:=Tryz.zeroValue3
 t4:=Tryz.underlying4
 a4:=Tryz.isAgg4
 z4:=Tryz.sizeOf4
 v4:=Tryz.zeroValue4
 t5:=Tryz.underlying5
 a5:=Tryz.isAgg5
 z5:=Tryz.sizeOf5
 v5:=Tryz.zeroValue5
 t9:=Tryz.underlying9
 a9:=Tryz.isAgg9
 z9:=Tryz.sizeOf9
 v9:=Tryz.zeroValue9
 t22:=Tryz.underlying164
 a22:=Tryz.isAgg164
 z22:=Tryz.sizeOf164
 v22:=Tryz.zeroValue164
 t23:=Tryz.underlying164
 a23:=Tryz.isAgg164
 z23:=Tryz.sizeOf164
 v23:=Tryz.zeroValue164
 t25:=Tryz.underlying2
 a25:=Tryz.isAgg2
 z25:=Tryz.sizeOf2
 v25:=Tryz.zeroValue2
 t32:=Tryz.underlying251
 a32:=Tryz.isAgg251
 z32:=Tryz.sizeOf251
 v32:=Tryz.zeroValue251
 t35:=Tryz.underlying342
 a35:=Tryz.isAgg342
 z35:=Tryz.sizeOf342
 v35:=Tryz.zeroValue342
 t36:=Tryz.underlying343
 a36:=Tryz.isAgg343
 z36:=Tryz.sizeOf343
 v36:=Tryz.zeroValue343
 t41:=Tryz.underlying347
 a41:=Tryz.isAgg347
 z41:=Tryz.sizeOf347
 v41:=Tryz.zeroValue347
 t44:=Tryz.underlying350
 a44:=Tryz.isAgg350
 z44:=Tryz.sizeOf350
 v44:=Tryz.zeroValue350
 t46:=Tryz.underlying56
 a46:=Tryz.isAgg56
 z46:=Tryz.sizeOf56
 v46:=Tryz.zeroValue56
 t53:=Tryz.underlying371
 a53:=Tryz.isAgg371
 z53:=Tryz.sizeOf371
 v53:=Tryz.zeroValue371
 t57:=Tryz.underlying374
 a57:=Tryz.isAgg374
 z57:=Tryz.sizeOf374
 v57:=Tryz.zeroValue374
 t63:=Tryz.underlying385
 a63:=Tryz.isAgg385
 z63:=Tryz.sizeOf385
 v63:=Tryz.zeroValue385
 t64:=Tryz.underlying386
 a64:=Tryz.isAgg386
 z64:=Tryz.sizeOf386
 v64:=Tryz.zeroValue386 }
def Tryz.cloneA_ren:Go.Shelf.Ren:=⟨fun|5=>121|7=>175|n=>n,fun|23=>206|25=>2|3=>78|4=>4|20=>20|n=>n,fun|n=>n⟩
theorem Tryz.cloneA:Go.Proofs.SlLaysW.n5 Tryz.prog Tryz.cloneA_ren:={
 mixed:=by kernel_rfl
 f5:=⟨Tryz.f121.name,by decide,Tryz.func121.trans (congrArg some (by kernel_rfl))⟩
 f7:=Tryz.func175.trans (congrArg some (by kernel_rfl))
 t4:=Tryz.underlying4
 a4:=Tryz.isAgg4
 z4:=Tryz.sizeOf4
 v4:=Tryz.zeroValue4
 t20:=Tryz.underlying20
 a20:=Tryz.isAgg20
 z20:=Tryz.sizeOf20
 v20:=Tryz.zeroValue20
 t23:=Tryz.underlying206
 a23:=Tryz.isAgg206
 z23:=Tryz.sizeOf206
 v23:=Tryz.zeroValue206 }
def Tryz.cloneA2_ren:Go.Shelf.Ren:=⟨fun|5=>156|7=>175|n=>n,fun|23=>116|25=>2|3=>80|4=>4|20=>20|n=>n,fun|n=>n⟩
theorem Tryz.cloneA2:Go.Proofs.SlLaysW.n5 Tryz.prog Tryz.cloneA2_ren:={
 mixed:=by kernel_rfl
 f5:=⟨Tryz.f156.name,by decide,Tryz.func156.trans (congrArg some (by kernel_rfl))⟩
 f7:=Tryz.func175.trans (congrArg some (by kernel_rfl))
 t4:=Tryz.underlying4
 a4:=Tryz.isAgg4
 z4:=Tryz.sizeOf4
 v4:=Tryz.zeroValue4
 t20:=Tryz.underlying20
 a20:=Tryz.isAgg20
 z20:=Tryz.sizeOf20
 v20:=Tryz.zeroValue20
 t23:=Tryz.underlying116
 a23:=Tryz.isAgg116
 z23:=Tryz.sizeOf116
 v23:=Tryz.zeroValue116 }
def Tryz.cloneA3_ren:Go.Shelf.Ren:=⟨fun|5=>157|7=>175|n=>n,fun|23=>209|25=>2|3=>95|4=>4|20=>20|n=>n,fun|n=>n⟩
theorem Tryz.cloneA3:Go.Proofs.SlLaysW.n5 Tryz.prog Tryz.cloneA3_ren:={
 mixed:=by kernel_rfl
 f5:=⟨Tryz.f157.name,by decide,Tryz.func157.trans (congrArg some (by kernel_rfl))⟩
 f7:=Tryz.func175.trans (congrArg some (by kernel_rfl))
 t4:=Tryz.underlying4
 a4:=Tryz.isAgg4
 z4:=Tryz.sizeOf4
 v4:=Tryz.zeroValue4
 t20:=Tryz.underlying20
 a20:=Tryz.isAgg20
 z20:=Tryz.sizeOf20
 v20:=Tryz.zeroValue20
 t23:=Tryz.underlying209
 a23:=Tryz.isAgg209
 z23:=Tryz.sizeOf209
 v23:=Tryz.zeroValue209 }
open Go.Shelf
def Tryz.sortKA_ren:Go.Shelf.Ren:=⟨fun|6=>180|15=>213|14=>215|28=>246|29=>152|20=>247|21=>248|22=>249|23=>250|24=>251|25=>252|26=>253|27=>254|46=>276|47=>272|48=>273|49=>277|50=>278|57=>286|n=>n,fun|22=>225|24=>55|25=>230|3=>3|39=>251|0=>0|53=>350|55=>56|4=>4|46=>343|45=>342|50=>347|5=>5|9=>9|66=>371|70=>374|76=>385|77=>386|n=>n,fun|n=>n⟩
theorem Tryz.sortKA:Go.Proofs.SlLaysF0.n6 Tryz.prog Tryz.sortKA_ren:={
 mixed:=by kernel_rfl
 f6:=⟨Tryz.f180.name,by decide,Tryz.func180.trans (congrArg some (by kernel_rfl))⟩
 f14:=⟨Tryz.f215.name,by decide,Tryz.func215.trans (congrArg some (by kernel_rfl))⟩
 f15:=Tryz.func213.trans (congrArg some (by kernel_rfl))
 f20:=⟨Tryz.f247.name,by decide,Tryz.func247.trans (congrArg some (by kernel_rfl))⟩
 f21:=⟨Tryz.f248.name,by decide,Tryz.func248.trans (congrArg some (by kernel_rfl))⟩
 f22:=⟨Tryz.f249.name,by decide,Tryz.func249.trans (congrArg some (by kernel_rfl))⟩
 f23:=⟨Tryz.f250.name,by decide,Tryz.func250.trans (congrArg some (by kernel_rfl))⟩
 f24:=⟨Tryz.f251.name,by decide,Tryz.func251.trans (congrArg some (by kernel_rfl))⟩
 f25:=⟨Tryz.f252.name,by decide,Tryz.func252.trans (congrArg some (by kernel_rfl))⟩
 f26:=⟨Tryz.f253.name,by decide,Tryz.func253.trans (congrArg some (by kernel_rfl))⟩
 f27:=⟨Tryz.f254.name,by decide,Tryz.func254.trans (congrArg some (by kernel_rfl))⟩
 f28:=Tryz.func246.trans (congrArg some (by kernel_rfl))
 f29:=Tryz.func152.trans (congrArg some (by kernel_rfl))
 f46:=⟨Tryz.f276.name,by decide,Tryz.func276.trans (congrArg some (by kernel_rfl))⟩
 f47:=Tryz.func272.trans (congrArg some (by kernel_rfl))
 f48:=Tryz.func273.trans (congrArg some (by kernel_rfl))
 f49:=⟨Tryz.f277.name,by decide,Tryz.func277.trans (congrArg some (by kernel_rfl))⟩
 f50:=⟨Tryz.f278.name,by decide,Tryz.func278.trans (congrArg some (by kernel_rfl))⟩
 f57:=⟨Tryz.f286.name,by decide,Tryz.func286.trans (congrArg some (by kernel_rfl))⟩
 t0:=Tryz.underlying0
 a0:=Tryz.isAgg0
 z0:=Tryz.sizeOf0
 v0:=Tryz.zeroValue0
 t3:=Tryz.underlying3
 a3:=Tryz.isAgg3
 z3:=Tryz.sizeOf3
 v3:=Tryz.zeroValue3
 t4:=Tryz.underlying4
 a4:=Tryz.isAgg4
 z4:=Tryz.sizeOf4
 v4:=Tryz.zeroValue4
 t5:=Tryz.underlying5
 a5:=Tryz.isAgg5
 z5:=Tryz.sizeOf5
 v5:=Tryz.zeroValue5
 t9:=Tryz.underlying9
 a9:=Tryz.isAgg9
 z9:=Tryz.sizeOf9
 v9:=Tryz.zeroValue9
 t22:=Tryz.underlying225
 a22:=Tryz.isAgg225
 z22:=Tryz.sizeOf225
 v22:=Tryz.zeroValue225
 t25:=Tryz.underlying230
 a25:=Tryz.isAgg230
 z25:=Tryz.sizeOf230
 v25:=Tryz.zeroValue230
 t39:=Tryz.underlying251
 a39:=Tryz.isAgg251
 z39:=Tryz.sizeOf251
 v39:=Tryz.zeroValue251
 t45:=Tryz.underlying342
 a45:=Tryz.isAgg342
 z45:=Tryz.sizeOf342
 v45:=Tryz.zeroValue342
 t46:=Tryz.underlying343
 a46:=Tryz.isAgg343
 z46:=Tryz.sizeOf343
 v46:=Tryz.zeroValue343
 t50:=Tryz.underlying347
 a50:=Tryz.isAgg347
 z50:=Tryz.sizeOf347
 v50:=Tryz.zeroValue347
 t53:=Tryz.underlying350
 a53:=Tryz.isAgg350
 z53:=Tryz.sizeOf350
 v53:=Tryz.zeroValue350
 t55:=Tryz.underlying56
 a55:=Tryz.isAgg56
 z55:=Tryz.sizeOf56
 v55:=Tryz.zeroValue56
 t66:=Tryz.underlying371
 a66:=Tryz.isAgg371
 z66:=Tryz.sizeOf371
 v66:=Tryz.zeroValue371
 t70:=Tryz.underlying374
 a70:=Tryz.isAgg374
 z70:=Tryz.sizeOf374
 v70:=Tryz.zeroValue374
 t76:=Tryz.underlying385
 a76:=Tryz.isAgg385
 z76:=Tryz.sizeOf385
 v76:=Tryz.zeroValue385
 t77:=Tryz.underlying386
 a77:=Tryz.isAgg386
 z77:=Tryz.sizeOf386
 v77:=Tryz.zeroValue386 }
def Tryz.cloneA4_ren:Go.Shelf.Ren:=⟨fun|5=>128|7=>175|n=>n,fun|23=>198|25=>55|3=>62|4=>4|20=>20|n=>n,fun|n=>n⟩
theorem Tryz.cloneA4:Go.Proofs.SlLaysW.n5 Tryz.prog Tryz.cloneA4_ren:={
 mixed:=by kernel_rfl
 f5:=⟨Tryz.f128.name,by decide,Tryz.func128.trans (congrArg some (by kernel_rfl))⟩
 f7:=Tryz.func175.trans (congrArg some (by kernel_rfl))
 t4:=Tryz.underlying4
 a4:=Tryz.isAgg4
 z4:=Tryz.sizeOf4
 v4:=Tryz.zeroValue4
 t20:=Tryz.underlying20
 a20:=Tryz.isAgg20
 z20:=Tryz.sizeOf20
 v20:=Tryz.zeroValue20
 t23:=Tryz.underlying198
 a23:=Tryz.isAgg198
 z23:=Tryz.sizeOf198
 v23:=Tryz.zeroValue198 }
def Tryz.joinA_ren:Go.Shelf.Ren:=⟨fun|156=>220|165=>259|166=>260|169=>261|240=>280|241=>281|276=>287|277=>288|n=>n,fun|31=>294|9=>9|3=>3|4=>4|0=>0|20=>20|72=>360|76=>364|70=>358|37=>24|75=>363|127=>378|164=>389|5=>5|80=>300|n=>n,fun|n=>n⟩
theorem Tryz.joinA:Go.Proofs.Lays.n156 Tryz.prog Tryz.joinA_ren:={
 mixed:=by kernel_rfl
 f156:=Tryz.func220.trans (congrArg some (by kernel_rfl))
 f165:=Tryz.func259.trans (congrArg some (by kernel_rfl))
 f166:=Tryz.func260.trans (congrArg some (by kernel_rfl))
 f169:=Tryz.func261.trans (congrArg some (by kernel_rfl))
 f240:=Tryz.func280.trans (congrArg some (by kernel_rfl))
 f241:=Tryz.func281.trans (congrArg some (by kernel_rfl))
 f276:=Tryz.func287.trans (congrArg some (by kernel_rfl))
 f277:=Tryz.func288.trans (congrArg some (by kernel_rfl))
 t0:=Tryz.underlying0
 a0:=Tryz.isAgg0
 z0:=Tryz.sizeOf0
 v0:=Tryz.zeroValue0
 t3:=Tryz.underlying3
 a3:=Tryz.isAgg3
 z3:=Tryz.sizeOf3
 v3:=Tryz.zeroValue3
 t4:=Tryz.underlying4
 a4:=Tryz.isAgg4
 z4:=Tryz.sizeOf4
 v4:=Tryz.zeroValue4
 t9:=Tryz.underlying9
 a9:=Tryz.isAgg9
 z9:=Tryz.sizeOf9
 v9:=Tryz.zeroValue9
 t20:=Tryz.underlying20
 a20:=Tryz.isAgg20
 z20:=Tryz.sizeOf20
 v20:=Tryz.zeroValue20
 t31:=Tryz.underlying294
 a31:=Tryz.isAgg294
 z31:=Tryz.sizeOf294
 v31:=Tryz.zeroValue294
 t37:=Tryz.underlying24
 a37:=Tryz.isAgg24
 z37:=Tryz.sizeOf24
 v37:=Tryz.zeroValue24
 t70:=Tryz.underlying358
 a70:=Tryz.isAgg358
 z70:=Tryz.sizeOf358
 v70:=Tryz.zeroValue358
 t72:=Tryz.underlying360
 a72:=Tryz.isAgg360
 z72:=Tryz.sizeOf360
 v72:=Tryz.zeroValue360
 t75:=Tryz.underlying363
 a75:=Tryz.isAgg363
 z75:=Tryz.sizeOf363
 v75:=Tryz.zeroValue363
 t76:=Tryz.underlying364
 a76:=Tryz.isAgg364
 z76:=Tryz.sizeOf364
 v76:=Tryz.zeroValue364
 t127:=Tryz.underlying378
 a127:=Tryz.isAgg378
 z127:=Tryz.sizeOf378
 v127:=Tryz.zeroValue378
 t164:=Tryz.underlying389
 a164:=Tryz.isAgg389
 z164:=Tryz.sizeOf389
 v164:=Tryz.zeroValue389 }
end Go.Proofs
namespace Go.Proofs.YtfmkddccnjidmaaGreatDoor
open Go.Nm
noncomputable def X:Ctx:={ P:=Tryz.prog,quiet:=[14,23,24,28,35,58,60,63,70,78,82,97,102,108,109,111,116,119,124,125,134,152,166,167,168,169,171,174,182,183,187,198,202,209,213,216,217,218,229,233,243,246,255,256,258,268,269,272,279,283,284],calls:=[2,3,4,5,6,7,8,9,10,11,12,13,14,15,16,17,18,19,20,21,22,23,24,25,26,27,28,29,30,31,32,33,34,35,36,37,38,39,40,41,42,43,44,45,46,47,48,49,50,51,52,53,54,55,56,57,58,59,60,61,62,63,64,65,66,67,68,69,70,71,72,73,74,75,76,77,78,79,80,81,82,83,84,85,86,87,88,89,90,91,92,93,94,95,96,97,98,99,100,101,102,103,104,105,106,107,108,109,110,111,112,113,114,115,116,117,118,119,120,121,122,123,124,125,126,127,128,129,130,131,132,133,134,135,136,137,138,139,140,141,142,143,144,145,146,147,148,149,150,151,152,153,154,155,156,157,158,159,160,161,162,163,164,165,166,167,168,169,170,171,172,173,174,176,177,178,179,180,181,182,183,184,185,186,187,188,189,190,191,192,193,194,195,196,197,199,200,201,202,203,204,205,206,207,208,209,210,211,212,213,214,215,216,217,218,219,220,221,222,223,224,225,226,227,228,229,230,231,232,233,234,235,236,237,238,239,240,241,242,243,244,245,246,247,248,249,250,251,252,253,254,255,256,257,258,259,260,261,262,263,264,265,266,268,269,270,271,272,273,274,275,276,277,278,279,280,281,282,284,285,286,313],pan:=[40,41,42,43,44,45,47,49,94,107],ext:=[198,283] }
theorem X_P:X.P=Tryz.prog:=rfl
theorem qmf:X.P.follows .mixedOrders=true:=by kernel_rfl
theorem X_all:X.calls.all (qo4 X.P)=true:=by kernel_rfl
theorem qcn:∀f,memN f X.calls=true→q4k X.P f:=qy3 X_all
theorem cE {f:FuncId}{fn:Func}(hf:Tryz.prog.funcs[f]?=some fn)(an:Ann){args:List Value}{H:Heap}{K:Value→Heap→Prop}{C:Prop}(h:C)(he:vcFun X fn an args H K=C:=by kernel_rfl):qg9 Tryz.prog f args.toArray H K:=qdp X_P qmf qcn hf he h
theorem cP {f:FuncId}{fn:Func}(hf:Tryz.prog.funcs[f]?=some fn)(an:Ann){args:List Value}{H:Heap}{K KP:Value→Heap→Prop}{C:Prop}(he:qqc X fn an args H K KP=C)(h:C):z0v Tryz.prog f args.toArray H K KP:=qth X_P qmf qcn hf he h
abbrev KT:=Value→Heap→Prop
abbrev CF:=qg9 Tryz.prog
abbrev CP:=z0v Tryz.prog
abbrev CQ:=q1o Tryz.prog
end Go.Proofs.YtfmkddccnjidmaaGreatDoor
namespace Go.Nm
abbrev Ann.r (x:Ann):Ann:=.seq .reg x
end Go.Nm
namespace Go.Proofs.YtfmkddccnjidmaaGreatDoor
open Go.Nm
def q65.l1 (i:Option Addr)(d:Nat)(K:KT)(j:Int→Heap→Prop)(e:Int→Heap→Nat)(a:Int)(b:Heap):Prop:=
 IF (decide (a < (d:Int))) (
 ((0:Int)≤a∧a < (d:Int))∧∃f g:Nat,(i=some ⟨f,g,none⟩)∧
 ∃c,q00 b f (g+a.toNat)=some (I64 c)∧
 IF (!decide (c=0)) (
 K (I64 c) b) (
 j (i64.wrap (a+1)) b∧e (i64.wrap (a+1)) b < e a b)) (
 K (I64 0) b)
def q65.code (d:Option Addr)(e g:Nat)(H:Heap)(K:KT):Prop:=
 ∃(a:Int→Heap→Prop) (f:Int→Heap→Nat),a 0 H∧
 ∀b c,a b c→q65.l1 d e K a f b c
theorem q65.call {a b c H K:_}(hK:q65.code a b c H K):CF 229 ⟨[.slice a b c]⟩ H K:=
 cE Tryz.func229 (.r (.r (.seq (.r (.blk (.loop [(8,.one (.int .i64))] (.r (.seq (.cond .no .no) (.seq (.blk (.r (.r (.cond (.r .no) .no)))) .reg)))))) (.r .no)))) hK
def q66.l1 (n:Nat)(K:KT)(o:Option Nat)(p:Option Addr)(e:Nat)(q:Int→Heap→Prop)(f:Int→Heap→Nat)(a:Int)(b:Heap):Prop:=
 IF (decide (a < (e:Int))) (
 ((0:Int)≤a∧a < (e:Int))∧∃l m:Nat,(p=some ⟨l,m,none⟩)∧
 ∃c,q00 b l (m+a.toNat)=some (I64 c)∧
 ∃g i j k,q09 Tryz.prog (Instr.lookup 116 (.map o) (I64 c) false) b (.agg #[I64 g,.bool i,.bool j,.bool k])∧
 q33 Tryz.prog n [I64 c,.agg #[I64 g,.bool i,.bool j,.bool k]] b fun r d=>∃r1,r=(.bool r1)∧
 IF (!r1) (
 K (.tuple #[]) d) (
 q (i64.wrap (a+1)) d∧f (i64.wrap (a+1)) d < f a b)) (
 K (.tuple #[]) b)
def q66.code (l m n:Nat)(H:Heap)(K:KT):Prop:=
 ∃a,q00 H m n=some (.pointer a)∧
 NN a (
 ∃d,q00 H (adrB a) ((adrO a)+3)=some (.map d)∧
 CF 156 #[.map d] H fun q r=>∃c,q=(.map c)∧
 CF 227 #[.map c] r fun s t=>∃e f,s=(.func (.func e) #[] ⟨f⟩)∧
 CF 122 #[.func (.func e) #[] ⟨f⟩] t fun u v=>∃g i p,u=(.slice g i p)∧
 ∃(b:Int→Heap→Prop) (o:Int→Heap→Nat),b 0 v∧
 ∀j k,b j k→q66.l1 l K c g i b o j k)
theorem q66.call {a b c H K:_}(hK:q66.code a b c H K):CF 226 ⟨[.func (.yield a) #[] #[],PA b c]⟩ H K:=
 cE Tryz.func226 (.r (.r (.blk (.loop [(15,.one (.int .i64))] (.r (.seq (.cond .no .no) (.seq (.blk (.r (.r (.cond .no .no)))) .reg))))))) hK
def q67.r1 (K:KT)(a:Heap):Prop:=
 K (I64 0) a
def q67.code (a b x y z aa l m n o:Nat)(H:Heap)(K:KT):Prop:=
 ∃p,q00 H a b=some (I64 p)∧
 ∃q,q00 H x y=some (I64 q)∧
 ∃g,q00 H z aa=some (.pointer g)∧
 NN g (
 ∃r,q00 H (adrB g) (adrO g)=some (I64 r)∧
 ST H a (b+1) [.bool (decide (p < (i64.wrap (q - r))))] fun k=>
 ∃i,q00 k a (b+2)=some (.bool i)∧
 ((i=false)→True)∧
 ∃s,((i=false)→q00 k a (b+1)=some (.bool s))∧
 ST k a (b+2) [.bool (i || s)] fun d=>
 ∃c,q00 d a (b+1)=some (.bool c)∧
 (((!c)=true)→True)∧
 ∃e,(((!c)=true)→q00 d a (b+3)=some (.bool e))∧
 ∃f,((((!c) && (!e))=true)→q00 d l m=some (.bool f))∧
 (((((!c) && (!e))=true)∧(!f)=false)→True)∧
 ∃t,(((((!c) && (!e))=true)∧(!f)=false)→q00 d a b=some (I64 t))∧
 ∃u,(((((!c) && (!e))=true)∧(!f)=false)→q00 d n o=some (I64 u))∧
 ∀j:Heap→Prop,(∀v,q67.r1 K v→j v)→
 IF (((!c) && (!e)) && ((!f) || (decide (t < u)))) (
 ∃w,q00 d a b=some (I64 w)∧
 ST d n o [I64 w] fun ab=>
 ST ab l m [.bool true] fun ac=>
 j ac) (
 j d))
theorem q67.call {a b c d e f g i j k H K:_}(hK:q67.code a b c d e f g i j k H K):CF 197 ⟨[PA a b,PA c d,PA e f,PA g i,PA j k]⟩ H K:=
 cE Tryz.func197 (.r (.r (.r (.seq (.r (.condJ [] .reg .no)) (.r .no))))) hK
def qi3.code (a b:Nat)(H:Heap)(K:KT):Prop:=
 AL H [PA a b] 111 fun c d=>
 K (.func (.func 226) #[] #[PA c 0]) d
theorem qi3.call {a b H K:_}(hK:qi3.code a b H K):CF 196 ⟨[PA a b]⟩ H K:=
 cE Tryz.func196 (.r (.r .no)) hK
def q90.code (c d e f:Nat)(H:Heap)(K:KT):Prop:=
 ∃g,q00 H e f=some (I64 g)∧
 ∃i,CQ 108 #[I64 g] H (.bool i)∧
 IF (!i) (
 K (I64 11) H) (
 ∃a,q00 H c d=some (I64 a)∧
 ∃b,q00 H e f=some (I64 b)∧
 ST H c d [I64 (if b > a then b else a)] fun j=>
 K (I64 0) j)
theorem q90.call {a b c d H K:_}(hK:q90.code a b c d H K):CF 195 ⟨[PA a b,PA c d]⟩ H K:=
 cE Tryz.func195 (.r (.seq (.r (.cond (.r .no) .no)) (.r (.r .no)))) hK
def q5j.code (a:Option Addr)(e f:Nat)(H:Heap)(K:KT):Prop:=
 IF a.isNone (
 K (.slice none 0 0) H) (
 AL H [] 267 fun g i=>
 RunW Tryz.prog (Builtin.append_ #[91,91] 91 #[.slice (some ⟨g,0,none⟩) 0 0,.slice a e f]) i fun j k=>
 ∃b c d,j=(.slice b c d)∧
 K (.slice b c d) k)
theorem q5j.call {a b c H K:_}(hK:q5j.code a b c H K):CF 189 ⟨[.slice a b c]⟩ H K:=
 cE Tryz.func189 (.r (.seq (.r (.cond (.r .no) .no)) (.r .no))) hK
def q5k.code (a:Option Addr)(e f:Nat)(H:Heap)(K:KT):Prop:=
 IF a.isNone (
 K (.slice none 0 0) H) (
 AL H [] 95 fun g i=>
 RunW Tryz.prog (Builtin.append_ #[44,44] 44 #[.slice (some ⟨g,0,none⟩) 0 0,.slice a e f]) i fun j k=>
 ∃b c d,j=(.slice b c d)∧
 K (.slice b c d) k)
theorem q5k.call {a b c H K:_}(hK:q5k.code a b c H K):CF 188 ⟨[.slice a b c]⟩ H K:=
 cE Tryz.func188 (.r (.seq (.r (.cond (.r .no) .no)) (.r .no))) hK
def q68.l1 (j:Option Addr)(e:Nat)(K:KT)(k:Int→Int→Heap→Prop)(f:Int→Int→Heap→Nat)(d a:Int)(b:Heap):Prop:=
 IF (decide (a < (e:Int))) (
 ((0:Int)≤a∧a < (e:Int))∧∃g i:Nat,(j=some ⟨g,i,none⟩)∧
 ∃c,q00 b g (i+a.toNat)=some (.int .u8 c)∧
 IF (((decide (c=0)) && (decide (0 < a))) || ((decide (1 < c)) && (decide (a=9)))) (
 K (.tuple #[.int .u64 0,I64 0,I64 10]) b) (
 ((128:Int)≠0)∧
 ((0:Int)≤(i64.wrap (7*a)))∧
 IF (decide (c < 128)) (
 K (.tuple #[.int .u64 (q0d .or .u64 d (u64.wrap ((u64.wrap (Int.tmod c 128))*2 ^ (min (Int.toNat (i64.wrap (7*a))) (u64.bits))))),I64 (i64.wrap (a+1)),I64 0]) b) (
 k (q0d .or .u64 d (u64.wrap ((u64.wrap (Int.tmod c 128))*2 ^ (min (Int.toNat (i64.wrap (7*a))) (u64.bits))))) (i64.wrap (a+1)) b∧f (q0d .or .u64 d (u64.wrap ((u64.wrap (Int.tmod c 128))*2 ^ (min (Int.toNat (i64.wrap (7*a))) (u64.bits))))) (i64.wrap (a+1)) b < f d a b))) (
 K (.tuple #[.int .u64 0,I64 0,I64 15]) b)
def q68.code (e:Option Addr)(f i:Nat)(H:Heap)(K:KT):Prop:=
 ∃(a:Int→Int→Heap→Prop) (g:Int→Int→Heap→Nat),a 0 0 H∧
 ∀(b:Int) (c:Int),∀d:Heap,a b c d→q68.l1 e f K a g b c d
theorem q68.call {a b c H K:_}(hK:q68.code a b c H K):CF 174 ⟨[.slice a b c]⟩ H K:=
 cE Tryz.func174 (.r (.r (.seq (.r (.blk (.loop [(5,.one (.int .u64)),(10,.one (.int .i64))] (.r (.seq (.cond .no .no) (.seq (.blk (.r (.seq (.r (.cond (.r .no) .no)) (.r (.r (.cond (.r .no) .no)))))) .reg)))))) (.r .no)))) hK
def qdu.code (a b c:Int)(H:Heap)(K:KT):Prop:=
 K (.bool ((((((decide (0≤a)) && (decide (a < 64))) && (decide (1≤b))) && (decide (b≤1099511627776))) && (decide (0≤c))) && (decide (c≤4611686018427387903)))) H
theorem qdu.call {a b c H K:_}(hK:qdu.code a b c H K):CF 169 ⟨[I64 a,I64 b,I64 c]⟩ H K:=
 cE Tryz.func169 (.r (.r .no)) hK
def qco.code (c:Option Addr)(d e:Nat)(b:Int)(H:Heap)(K:KT):Prop:=
 ∃a r1 r2,CQ 174 #[.slice c d e] H (.tuple #[.int .u64 a,I64 r1,I64 r2])∧
 IF (!decide (r2=0)) (
 K (.tuple #[I64 0,I64 0,I64 r2]) H) (
 IF (decide ((u64.wrap (if 0 > b then 0 else b)) < a)) (
 K (.tuple #[I64 0,I64 0,I64 17]) H) (
 K (.tuple #[I64 (i64.wrap a),I64 r1,I64 0]) H))
theorem qco.call {a b c d H K:_}(hK:qco.code a b c d H K):CF 168 ⟨[.slice a b c,I64 d]⟩ H K:=
 cE Tryz.func168 (.r (.r (.seq (.r (.cond (.r .no) .no)) (.seq (.r (.cond (.r .no) .no)) (.r .no))))) hK
def qa2.code (a:Int)(H:Heap)(K:KT):Prop:=
 ((0:Int)≤1)∧
 K (I64 (q0d .xor .i64 (i64.wrap (Int.fdiv a (2 ^ (min (Int.toNat 1) (u64.bits))))) (i64.wrap (0 - (i64.wrap (q0d .and .u64 a 1)))))) H
theorem qa2.call {a H K:_}(hK:qa2.code a H K):CF 167 ⟨[.int .u64 a]⟩ H K:=
 cE Tryz.func167 (.r (.r .no)) hK
def q4x.code (a:Option Addr)(e f:Nat)(H:Heap)(K:KT):Prop:=
 IF a.isNone (
 K (.slice none 0 0) H) (
 AL H [] 43 fun g i=>
 RunW Tryz.prog (Builtin.append_ #[166,166] 166 #[.slice (some ⟨g,0,none⟩) 0 0,.slice a e f]) i fun j k=>
 ∃b c d,j=(.slice b c d)∧
 K (.slice b c d) k)
theorem q4x.call {a b c H K:_}(hK:q4x.code a b c H K):CF 155 ⟨[.slice a b c]⟩ H K:=
 cE Tryz.func155 (.r (.seq (.r (.cond (.r .no) .no)) (.r .no))) hK
def q3y.y1 (e j k l m n:Nat)(a:Heap)(b:Loop)(o:List Value)(c:Heap)(K_:Value→Heap→Prop):Prop:=
 ∃f p q r s,o=[I64 f,.agg #[I64 p,.bool q,.bool r,.bool s]]∧
 c[a.size+1]?=some (.loop b)∧
 c[a.size+1]?=some (.loop b)∧
 ∀d,d=q0q c (a.size+1) { b with state:=.busy }→
 ∃g,q00 d e 0=some (.pointer g)∧
 CF 143 #[.pointer g,I64 f,.func (.func 197) #[] #[PA j 0,PA e 0,PA m n,PA k l]] d fun t i=>∃r1,t=(I64 r1)∧
 i[a.size+1]?=some (.loop { b with state:=.busy })∧K_ (.bool true) (q0q i (a.size+1) b)
def q3y.r2 (K:KT)(d v l m w x:Nat)(n:Heap):Prop:=
 ∃r,q00 n d 0=some (.pointer r)∧
 CF 196 #[.pointer r] n fun y a=>∃i s,y=(.func (.func i) #[] ⟨s⟩)∧
 memN i X.calls=true∧
 ∀c:Loop,c.state=.ready→c.pending=none→
 (∀(o:List Value) (p:Heap) (K_:Value→Heap→Prop),q3y.y1 d v l m w x a c o p K_→q33 Tryz.prog (a.size+1) o p K_)→
 CF i ⟨(.func (.yield (a.size+1)) #[] #[])::s⟩ ((a.push (.deferred (some []))).push (.loop c)) fun z t=>∃(q:LoopState) (g:Option Code),q≠.busy∧t[a.size+1]?=some (.loop { c with state:=q,pending:=g })∧
 ∀b,b=q0q t (a.size+1) { c with state:=.exhausted,pending:=g }→
 g=none∧
 ∃e,q00 b d 0=some (.pointer e)∧
 ∃f,q00 b d 0=some (.pointer f)∧
 NN f (
 ∃j,q00 b (adrB f) ((adrO f)+2)=some (I64 j)∧
 ∃k,q00 b l m=some (I64 k)∧
 NN e (
 ST b (adrB e) ((adrO e)+2) [I64 (if k > j then k else j)] fun u=>
 u[a.size]?=some (.deferred (some []))∧
 K (I64 0) (u.setIfInBounds a.size (.deferred none))))
def q3y.code (ad ae:Nat)(af:Int)(H:Heap)(K:KT):Prop:=
 AL H [PA ad ae] 111 fun d ag=>
 AL ag [I64 af] 2 fun b c=>
 ∃u,q00 c b 0=some (I64 u)∧
 ∃g,CQ 108 #[I64 u] c (.bool g)∧
 ∃v,(((!g)=false)→q00 c b 0=some (I64 v))∧
 ∃j,(((!g)=false)→q00 c d 0=some (.pointer j))∧
 (((!g)=false)→isA j)∧
 ∃w,(((!g)=false)→q00 c (adrB j) ((adrO j)+1)=some (I64 w))∧
 IF ((!g) || (decide (v < w))) (
 K (I64 11) c) (
 ∃k,q00 c d 0=some (.pointer k)∧
 ∃x,q00 c b 0=some (I64 x)∧
 NN k (
 ST c (adrB k) ((adrO k)+1) [I64 x] fun i=>
 ∀p:Nat→Nat→Nat→Nat→Heap→Prop,(∀(q:Nat) (r:Nat) (s:Nat) (t:Nat),∀y:Heap,q3y.r2 K d b q r s t y→p q r s t y)→
 ∃e,q00 i b 0=some (I64 e)∧
 ∃a,q00 i d 0=some (.pointer a)∧
 NN a (
 ∃f,q00 i (adrB a) (adrO a)=some (I64 f)∧
 (AL i [I64 0] 2 fun z l=>
 q00 l (adrB a) (adrO a)=some (I64 f)∧
 q00 l d 0=some (.pointer a)∧
 q00 l b 0=some (I64 e)∧
 AL l [.bool false] 4 fun aa m=>
 q00 m (adrB a) (adrO a)=some (I64 f)∧
 q00 m d 0=some (.pointer a)∧
 q00 m b 0=some (I64 e)∧
 ST m z 0 [I64 (i64.wrap (e - f))] fun ah=>
 ST ah aa 0 [.bool false] fun ai=>
 p z 0 aa 0 ai)∧
 (AL i [.bool false] 4 fun ab n=>
 q00 n (adrB a) (adrO a)=some (I64 f)∧
 q00 n d 0=some (.pointer a)∧
 q00 n b 0=some (I64 e)∧
 AL n [I64 0] 2 fun ac o=>
 q00 o (adrB a) (adrO a)=some (I64 f)∧
 q00 o d 0=some (.pointer a)∧
 q00 o b 0=some (I64 e)∧
 ST o ac 0 [I64 (i64.wrap (e - f))] fun aj=>
 ST aj ab 0 [.bool false] fun ak=>
 p ac 0 ab 0 ak))))
theorem q3y.call {a b c H K:_}(hK:q3y.code a b c H K):CF 149 ⟨[PA a b,I64 c]⟩ H K:=
 cE Tryz.func149 (.r (.seq (.r (.cond (.r .no) .no)) (.r (.seq (.regJ [(5,.one (.adr)),(6,.one (.adr))]) (.seq (.r (.blk (.rng [.one (.int .i64),.agg [.int .i64,.bool,.bool,.bool]] [none] .reg (.blk .reg)))) (.r (.r .no))))))) hK
def qcp.code (b c:Nat)(d e:Int)(H:Heap)(K:KT):Prop:=
 AL H [I64 e] 2 fun f g=>
 CF 143 #[PA b c,I64 d,.func (.func 195) #[] #[PA f 0]] g fun i j=>∃a,i=(I64 a)∧
 K (I64 a) j
theorem qcp.call {a b c d H K:_}(hK:qcp.code a b c d H K):CF 148 ⟨[PA a b,I64 c,I64 d]⟩ H K:=
 cE Tryz.func148 (.r (.r .no)) hK
def q0w.r1 (e:Int→Int→Heap→Prop)(b:Int→Int→Heap→Nat)(f a:Int)(g:Heap)(c:Int)(d:Heap):Prop:=
 e c (i64.wrap (a+1)) d∧b c (i64.wrap (a+1)) d < b f a g
def q0w.r2 (a:Int→Heap→Prop)(b:Int)(c:Heap):Prop:=
 a b c
def q0w.l3 (a b:Nat)(K:KT)(ak:(Option Addr)→Nat→Nat→Int→Heap→Prop)(w:(Option Addr)→Nat→Nat→Int→Heap→Nat)(j:Option Addr)(k l:Nat)(d:Int)(c:Heap):Prop:=
 ∃e,q00 c a (b+2)=some (.map e)∧
 ∃f,q00 c a b=some (I64 f)∧
 ∃m n o p q r,∃v:Bool,q09 Tryz.prog (Instr.lookup 209 (.map e) (I64 f) true) c (.tuple #[.agg #[I64 m,I64 n,.string o,.slice p q r],.bool v])∧
 AL c [I64 0,I64 0,(.string (⟨#[]⟩:ByteArray)),.slice none 0 0] 95 fun ag g=>
 q09 Tryz.prog (Instr.lookup 209 (.map e) (I64 f) true) g (.tuple #[.agg #[I64 m,I64 n,.string o,.slice p q r],.bool v])∧
 q00 g a b=some (I64 f)∧
 q00 g a (b+2)=some (.map e)∧
 ST g ag 0 [I64 m,I64 n,.string o,.slice p q r] fun i=>
 IF (!v) (
 K (.tuple #[.slice j k l,I64 d]) i) (
 ∃x,q00 i a (b+2)=some (.map x)∧
 ∃y,q00 i a b=some (I64 y)∧
 RunW Tryz.prog (Builtin.delete_ #[209,2] 0 #[.map x,I64 y]) i fun ao ah=>
 ∃z aa ab ac ad ae,q01 ah ag 0 [I64 z,I64 aa,.string ab,.slice ac ad ae]∧
 AL ah [I64 z,I64 aa,.string ab,.slice ac ad ae] 95 fun al am=>
 RunW Tryz.prog (Builtin.append_ #[44,44] 44 #[.slice j k l,.slice (some ⟨al,0,none⟩) 1 1]) am fun an ai=>
 ∃s t u,an=(.slice s t u)∧
 ∃af,q00 ai a b=some (I64 af)∧
 ST ai a b [I64 (i64.wrap (af+1))] fun aj=>
 ak s t u d aj∧w s t u d aj < w j k l d c)
def q0w.l4 (c d:Nat)(f:Int)(ay:Option Addr)(m:Nat)(K:KT)(az:Int→Int→Heap→Prop)(a0:Int→Int→Heap→Nat)(e a:Int)(g:Heap):Prop:=
 IF (decide (a < (m:Int))) (
 ((0:Int)≤a∧a < (m:Int))∧∃ar au:Nat,(ay=some ⟨ar,au,none⟩)∧
 ∃c0 r s t u v,q01 g ar (au+a.toNat*4) [I64 c0,I64 r,.string s,.slice t u v]∧
 AL g [I64 0,I64 0,(.string (⟨#[]⟩:ByteArray)),.slice none 0 0] 95 fun ax a2=>
 ST a2 ax 0 [I64 c0,I64 r,.string s,.slice t u v] fun l=>
 ∃w,q00 l c (d+2)=some (.map w)∧
 ∃x y z aa ab ac,∃av:Bool,q09 Tryz.prog (Instr.lookup 209 (.map w) (I64 (i64.wrap (f+a))) true) l (.tuple #[.agg #[I64 x,I64 y,.string z,.slice aa ab ac],.bool av])∧
 AL l [I64 0,I64 0,(.string (⟨#[]⟩:ByteArray)),.slice none 0 0] 95 fun a3 a4=>
 ST a4 a3 0 [I64 x,I64 y,.string z,.slice aa ab ac] fun b=>
 ∃ad,q00 b c d=some (I64 ad)∧
 ∀j:Int→Heap→Prop,(∀ae af,q0w.r1 az a0 e a g ae af→j ae af)→
 IF ((decide ((i64.wrap (f+a)) < ad)) || av) (
 j e b) (
 ∃ag,q00 b c d=some (I64 ag)∧
 ∃ah,q00 b c (d+1)=some (I64 ah)∧
 ∀k:Int→Heap→Prop,(∀ai aj,q0w.r2 j ai aj→k ai aj)→
 IF (decide ((i64.wrap (ag+ah))≤(i64.wrap (f+a)))) (
 k (i64.wrap (e+1)) b) (
 ∃ak,q00 b c (d+2)=some (.map ak)∧
 ∃al am an ao ap aq,q01 b ax 0 [I64 al,I64 am,.string an,.slice ao ap aq]∧
 RunW Tryz.prog (Instr.mapUpdate 209 (.map ak) (I64 (i64.wrap (f+a))) (.agg #[I64 al,I64 am,.string an,.slice ao ap aq])) b fun a6 a5=>
 k e a5))) (
 ∃(i:(Option Addr)→Nat→Nat→Int→Heap→Prop) (a1:(Option Addr)→Nat→Nat→Int→Heap→Nat),i none 0 0 e g∧
 ∀(n:Option Addr) (o:Nat) (p:Nat) (q:Int),∀aw:Heap,i n o p q aw→q0w.l3 c d K i a1 n o p q aw)
def q0w.code (g i:Nat)(a:Int)(j:Option Addr)(c l:Nat)(H:Heap)(K:KT):Prop:=
 IF ((decide (a < 0)) || (decide (2199023255552 < a))) (
 K (.tuple #[.slice none 0 0,(I64 (c:Int))]) H) (
 ∃(b:Int→Int→Heap→Prop) (k:Int→Int→Heap→Nat),b 0 0 H∧
 ∀(d:Int) (e:Int),∀f:Heap,b d e f→q0w.l4 g i a j c K b k d e f)
theorem q0w.call {a b c d e f H K:_}(hK:q0w.code a b c d e f H K):CF 145 ⟨[PA a b,I64 c,.slice d e f]⟩ H K:=
 cE Tryz.func145 (.r (.seq (.r (.cond (.r .no) .no)) (.seq (.r (.blk (.loop [(7,.one (.int .i64)),(25,.one (.int .i64))] (.r (.seq (.cond .no .no) (.seq (.blk (.r (.r (.r (.blk (.r (.condJ [(7,.one (.int .i64))] .no (.r (.condJ [(7,.one (.int .i64))] .reg .reg))))))))) .reg)))))) (.blk (.loop [(6,.one (.slice)),(7,.one (.int .i64))] (.blk (.r (.seq (.r (.cond (.r .no) .no)) (.r (.r .reg)))))))))) hK
def qa3.code (b c d e:Nat)(H:Heap)(K:KT):Prop:=
 ∃a,q00 H d e=some (.bool a)∧
 ST H b (c+3) [.bool a] fun f=>
 K (I64 0) f
theorem qa3.call {a b c d H K:_}(hK:qa3.code a b c d H K):CF 144 ⟨[PA a b,PA c d]⟩ H K:=
 cE Tryz.func144 (.r (.r (.r .no))) hK
def qa4.code (d e:Nat)(f:Int)(g:FuncId)(t:List Value)(H:Heap)(K:KT):Prop:=
 ∃i,q00 H d (e+3)=some (.map i)∧
 ∃j k l m,∃r:Bool,q09 Tryz.prog (Instr.lookup 116 (.map i) (I64 f) true) H (.tuple #[.agg #[I64 j,.bool k,.bool l,.bool m],.bool r])∧
 AL H [I64 0,.bool false,.bool false,.bool false] 80 fun c u=>
 ST u c 0 [I64 j,.bool k,.bool l,.bool m] fun s=>
 IF (!r) (
 K (I64 19) s) (
 memN g X.calls=true∧
 CF g ⟨[PA c 0]++t⟩ s fun v a=>∃b,v=(I64 b)∧
 IF (!decide (b=0)) (
 K (I64 b) a) (
 ∃n,q00 a d (e+3)=some (.map n)∧
 ∃c0 o p q,q01 a c 0 [I64 c0,.bool o,.bool p,.bool q]∧
 RunW Tryz.prog (Instr.mapUpdate 116 (.map n) (I64 f) (.agg #[I64 c0,.bool o,.bool p,.bool q])) a fun x w=>
 K (I64 0) w))
theorem qa4.call {a b c d e H K:_}(hK:qa4.code a b c d e H K):CF 143 ⟨[PA a b,I64 c,.func (.func d) #[] ⟨e⟩]⟩ H K:=
 cE Tryz.func143 (.r (.r (.seq (.r (.cond (.r .no) .no)) (.seq (.r (.r (.cond (.r .no) .no))) (.r (.r .no)))))) hK
def q30.code (g:Option Addr)(a b:Nat)(e c:Int)(H:Heap)(K:KT):Prop:=
 ((0:Int)≤e∧e≤c∧c≤(a:Int)∧(a:Int)≤(b:Int))∧
 IF (decide (e=c)) (
 K (.slice g a b) H) (
 ((0:Int)≤0∧(0:Int)≤e∧e≤(b:Int))∧
 ((0:Int)≤c∧c≤(a:Int)∧(a:Int)≤(b:Int))∧
 RunW Tryz.prog (Builtin.append_ #[166,166] 166 #[.slice (slB g 0 b 4) e.toNat b,.slice (slB g c.toNat b 4) (a - c.toNat) (b - c.toNat)]) H fun j k=>
 ∃i d f,j=(.slice i d f)∧
 ((0:Int)≤(d:Int)∧(d:Int)≤(a:Int)∧(a:Int)≤(f:Int))∧
 RunW Tryz.prog (Builtin.clear_ #[166] 0 #[.slice (slB i d f 4) (a - d) (f - d)]) k fun m l=>
 K (.slice i d f) l)
theorem q30.call {a b c d e H K:_}(hK:q30.code a b c d e H K):CF 139 ⟨[.slice a b c,I64 d,I64 e]⟩ H K:=
 cE Tryz.func139 (.r (.r (.seq (.r (.cond (.r .no) .no)) (.r (.r (.r (.r .no))))))) hK
def qf1.code (d e:Nat)(a f:Int)(H:Heap)(K:KT):Prop:=
 ∃b,CQ 109 #[I64 a] H (.bool b)∧
 ∃r1,(((!b)=false)→CQ 108 #[I64 f] H (.bool r1))∧
 IF ((!b) || (!r1)) (
 K (I64 11) H) (
 ∃g,q00 H d (e+3)=some (.map g)∧
 ∃i j k l,∃n:Bool,q09 Tryz.prog (Instr.lookup 116 (.map g) (I64 a) true) H (.tuple #[.agg #[I64 i,.bool j,.bool k,.bool l],.bool n])∧
 AL H [I64 0,.bool false,.bool false,.bool false] 80 fun o p=>
 ST p o 0 [I64 i,.bool j,.bool k,.bool l] fun c=>
 IF n (
 K (I64 18) c) (
 ∃m,q00 c d (e+3)=some (.map m)∧
 RunW Tryz.prog (Instr.mapUpdate 116 (.map m) (I64 a) (.agg #[I64 f,.bool false,.bool false,.bool false])) c fun r q=>
 K (I64 0) q))
theorem qf1.call {a b c d H K:_}(hK:qf1.code a b c d H K):CF 138 ⟨[PA a b,I64 c,I64 d]⟩ H K:=
 cE Tryz.func138 (.r (.seq (.r (.cond (.r .no) .no)) (.seq (.r (.r (.cond (.r .no) .no))) (.r (.r .no))))) hK
def qcq.code (b c:Nat)(d:Int)(H:Heap)(K:KT):Prop:=
 ∃e,q00 H b (c+3)=some (.map e)∧
 ∃f g i j,∃l:Bool,q09 Tryz.prog (Instr.lookup 116 (.map e) (I64 d) true) H (.tuple #[.agg #[I64 f,.bool g,.bool i,.bool j],.bool l])∧
 AL H [I64 0,.bool false,.bool false,.bool false] 80 fun m n=>
 ST n m 0 [I64 f,.bool g,.bool i,.bool j] fun a=>
 IF (!l) (
 K (I64 19) a) (
 ∃k,q00 a b (c+3)=some (.map k)∧
 RunW Tryz.prog (Builtin.delete_ #[116,2] 0 #[.map k,I64 d]) a fun p o=>
 K (I64 0) o)
theorem qcq.call {a b c H K:_}(hK:qcq.code a b c H K):CF 137 ⟨[PA a b,I64 c]⟩ H K:=
 cE Tryz.func137 (.r (.seq (.r (.r (.cond (.r .no) .no))) (.r (.r .no)))) hK
def qcr.code (f g:Nat)(j i l:Int)(H:Heap)(K:KT):Prop:=
 AL H [I64 0,I64 0,I64 0] 78 fun c e=>
 ∃m,CQ 169 #[I64 j,I64 i,I64 l] e (.bool m)∧
 IF (!m) (
 ST e c 0 [I64 0,I64 0,I64 0] fun a1=>
 ∃n o p,q01 a1 c 0 [I64 n,I64 o,I64 p]∧
 K (.tuple #[.agg #[I64 n,I64 o,I64 p],.bool false,I64 11]) a1) (
 ∃q,q00 e f (g+1)=some (.map q)∧
 ∃r s t,∃a:Bool,q09 Tryz.prog (Instr.lookup 206 (.map q) (I64 j) true) e (.tuple #[.agg #[I64 r,I64 s,I64 t],.bool a])∧
 AL e [I64 0,I64 0,I64 0] 78 fun d a8=>
 ST a8 d 0 [I64 r,I64 s,I64 t] fun b=>
 ∃u,((a=true)→q00 b d 1=some (I64 u))∧
 IF (a && (decide (u=i))) (
 ∃c0 v w,q01 b d 0 [I64 c0,I64 v,I64 w]∧
 ST b c 0 [I64 c0,I64 v,I64 w] fun a2=>
 ∃x y z,q01 a2 c 0 [I64 x,I64 y,I64 z]∧
 K (.tuple #[.agg #[I64 x,I64 y,I64 z],.bool false,I64 0]) a2) (
 ∃aa,((a=true)→q00 b d 1=some (I64 aa))∧
 IF (a && (decide (i < aa))) (
 ST b c 0 [I64 0,I64 0,I64 0] fun a3=>
 ∃ab ac ad,q01 a3 c 0 [I64 ab,I64 ac,I64 ad]∧
 K (.tuple #[.agg #[I64 ab,I64 ac,I64 ad],.bool false,I64 22]) a3) (
 ∃ae,((a=true)→q00 b d 0=some (I64 ae))∧
 IF (a && (decide (1099511627776≤ae))) (
 ST b c 0 [I64 0,I64 0,I64 0] fun a4=>
 ∃af ag ah,q01 a4 c 0 [I64 af,I64 ag,I64 ah]∧
 K (.tuple #[.agg #[I64 af,I64 ag,I64 ah],.bool false,I64 17]) a4) (
 (((!a)=true)→True)∧
 ∃ai,(((!a)=true)→q00 b f (g+1)=some (.map ai))∧
 ∃a0:Int,(((!a)=true)→q09 Tryz.prog (Builtin.len_ #[206] 3 #[.map ai]) b (.int .i64 a0))∧
 (((!a)=true)→True)∧
 ∃aj,(((!a)=true)→q00 b f g=some (I64 aj))∧
 IF ((!a) && (decide (aj≤a0))) (
 ST b c 0 [I64 0,I64 0,I64 0] fun a5=>
 ∃ak al am,q01 a5 c 0 [I64 ak,I64 al,I64 am]∧
 K (.tuple #[.agg #[I64 ak,I64 al,I64 am],.bool false,I64 20]) a5) (
 ∃an,q00 b d 0=some (I64 an)∧
 ST b d 0 [I64 (i64.wrap (an+1)),I64 i,I64 l] fun k=>
 ∃ao,q00 k f (g+1)=some (.map ao)∧
 ∃ap aq ar,q01 k d 0 [I64 ap,I64 aq,I64 ar]∧
 RunW Tryz.prog (Instr.mapUpdate 206 (.map ao) (I64 j) (.agg #[I64 ap,I64 aq,I64 ar])) k fun a9 a6=>
 ∃au av aw,q01 a6 d 0 [I64 au,I64 av,I64 aw]∧
 ST a6 c 0 [I64 au,I64 av,I64 aw] fun a7=>
 ∃ax ay az,q01 a7 c 0 [I64 ax,I64 ay,I64 az]∧
 K (.tuple #[.agg #[I64 ax,I64 ay,I64 az],.bool true,I64 0]) a7)))))
theorem qcr.call {a b c d e H K:_}(hK:qcr.code a b c d e H K):CF 136 ⟨[PA a b,I64 c,I64 d,I64 e]⟩ H K:=
 cE Tryz.func136 (.r (.seq (.r (.cond (.r .no) .no)) (.r (.seq (.blk (.r (.cond (.r .no) (.r (.cond (.r .no) (.r (.cond (.r .no) (.r (.cond (.r .no) .no))))))))) (.r (.r (.r .no))))))) hK
def qod.code (j k:Nat)(l m:Int)(H:Heap)(K:KT):Prop:=
 ∃b,q00 H j (k+1)=some (.map b)∧
 ∃c d e,∃a:Bool,q09 Tryz.prog (Instr.lookup 206 (.map b) (I64 l) true) H (.tuple #[.agg #[I64 c,I64 d,I64 e],.bool a])∧
 AL H [I64 0,I64 0,I64 0] 78 fun g n=>
 ST n g 0 [I64 c,I64 d,I64 e] fun i=>
 ∃f,((a=true)→q00 i g 0=some (I64 f))∧
 K (.bool (a && (decide (f=m)))) i
theorem qod.call {a b c d H K:_}(hK:qod.code a b c d H K):CF 135 ⟨[PA a b,I64 c,I64 d]⟩ H K:=
 cE Tryz.func135 (.r (.r (.r .no))) hK
def q69.l1 (s:Option Addr)(k:Nat)(K:KT)(t:(Option Addr)→Nat→Nat→Int→Heap→Prop)(l:(Option Addr)→Nat→Nat→Int→Heap→Nat)(c:Option Addr)(d e:Nat)(a:Int)(b:Heap):Prop:=
 IF (decide (a < (k:Int))) (
 ((0:Int)≤a∧a < (k:Int))∧∃p q:Nat,(s=some ⟨p,q,none⟩)∧
 ∃f,q00 b p (q+a.toNat)=some (.string f)∧
 CF 118 #[.slice c d e,(.int .u64 (u64.wrap (f.size:Int)))] b fun u v=>∃m n o,u=(.slice m n o)∧
 RunW Tryz.prog (Builtin.append_ #[24,9] 24 #[.slice m n o,.string f]) v fun w r=>
 ∃g i j,w=(.slice g i j)∧
 t g i j (i64.wrap (a+1)) r∧l g i j (i64.wrap (a+1)) r < l c d e a b) (
 K (.slice c d e) b)
def q69.code (g:Option Addr)(i k:Nat)(H:Heap)(K:KT):Prop:=
 ∃(a:(Option Addr)→Nat→Nat→Int→Heap→Prop) (j:(Option Addr)→Nat→Nat→Int→Heap→Nat),a none 0 0 0 H∧
 ∀(b:Option Addr) (c:Nat) (d:Nat) (e:Int),∀f:Heap,a b c d e f→q69.l1 g i K a j b c d e f
theorem q69.call {a b c H K:_}(hK:q69.code a b c H K):CF 132 ⟨[.slice a b c]⟩ H K:=
 cE Tryz.func132 (.r (.r (.seq (.r (.blk (.loop [(3,.one (.slice)),(8,.one (.int .i64))] (.r (.seq (.cond .no .no) (.seq (.blk (.r .reg)) .reg)))))) (.r .no)))) hK
def q6a.l1 (j k:Nat)(K:KT)(z:Option Addr)(l:Nat)(aa:(Option Addr)→Nat→Nat→Int→Heap→Prop)(m:(Option Addr)→Nat→Nat→Int→Heap→Nat)(c:Option Addr)(d e:Nat)(a:Int)(b:Heap):Prop:=
 IF (decide (a < (l:Int))) (
 ((0:Int)≤a∧a < (l:Int))∧∃w x:Nat,(z=some ⟨w,x,none⟩)∧
 ∃n,q00 b w (x+a.toNat)=some (I64 n)∧
 ∃o,q00 b j (k+2)=some (.map o)∧
 ∃p q r s t u,q09 Tryz.prog (Instr.lookup 209 (.map o) (I64 n) false) b (.agg #[I64 p,I64 q,.string r,.slice s t u])∧
 AL b [I64 p,I64 q,.string r,.slice s t u] 95 fun ab ac=>
 RunW Tryz.prog (Builtin.append_ #[44,44] 44 #[.slice c d e,.slice (some ⟨ab,0,none⟩) 1 1]) ac fun ad y=>
 ∃f g i,ad=(.slice f g i)∧
 aa f g i (i64.wrap (a+1)) y∧m f g i (i64.wrap (a+1)) y < m c d e a b) (
 ∃v,q00 b j (k+2)=some (.map v)∧
 RunW Tryz.prog (Builtin.clear_ #[209] 0 #[.map v]) b fun af ae=>
 K (.slice c d e) ae)
def q6a.code (b c:Nat)(H:Heap)(K:KT):Prop:=
 CF 83 #[PA b c] H fun n o=>∃i j m,n=(.slice i j m)∧
 ∃(a:(Option Addr)→Nat→Nat→Int→Heap→Prop) (l:(Option Addr)→Nat→Nat→Int→Heap→Nat),a none 0 0 0 o∧
 ∀(d:Option Addr) (e:Nat) (f:Nat) (g:Int),∀k:Heap,a d e f g k→q6a.l1 b c K i j a l d e f g k
theorem q6a.call {a b H K:_}(hK:q6a.code a b H K):CF 126 ⟨[PA a b]⟩ H K:=
 cE Tryz.func126 (.r (.r (.seq (.r (.blk (.loop [(3,.one (.slice)),(9,.one (.int .i64))] (.r (.seq (.cond .no .no) (.seq (.blk (.r .reg)) .reg)))))) (.r (.r .no))))) hK
def q6b.l1 (m:Nat)(K:KT)(n:Option Nat)(o:Option Addr)(e:Nat)(p:Int→Heap→Prop)(f:Int→Heap→Nat)(a:Int)(b:Heap):Prop:=
 IF (decide (a < (e:Int))) (
 ((0:Int)≤a∧a < (e:Int))∧∃k l:Nat,(o=some ⟨k,l,none⟩)∧
 ∃c,q00 b k (l+a.toNat)=some (I64 c)∧
 ∃g i j,q09 Tryz.prog (Instr.lookup 206 (.map n) (I64 c) false) b (.agg #[I64 g,I64 i,I64 j])∧
 q33 Tryz.prog m [I64 c,.agg #[I64 g,I64 i,I64 j]] b fun q d=>∃r1,q=(.bool r1)∧
 IF (!r1) (
 K (.tuple #[]) d) (
 p (i64.wrap (a+1)) d∧f (i64.wrap (a+1)) d < f a b)) (
 K (.tuple #[]) b)
def q6b.code (l m n:Nat)(H:Heap)(K:KT):Prop:=
 ∃a,q00 H m n=some (.pointer a)∧
 NN a (
 ∃d,q00 H (adrB a) ((adrO a)+1)=some (.map d)∧
 CF 121 #[.map d] H fun q r=>∃c,q=(.map c)∧
 CF 123 #[.map c] r fun s t=>∃e f,s=(.func (.func e) #[] ⟨f⟩)∧
 CF 122 #[.func (.func e) #[] ⟨f⟩] t fun u v=>∃g i p,u=(.slice g i p)∧
 ∃(b:Int→Heap→Prop) (o:Int→Heap→Nat),b 0 v∧
 ∀j k,b j k→q6b.l1 l K c g i b o j k)
theorem q6b.call {a b c H K:_}(hK:q6b.code a b c H K):CF 120 ⟨[.func (.yield a) #[] #[],PA b c]⟩ H K:=
 cE Tryz.func120 (.r (.r (.blk (.loop [(15,.one (.int .i64))] (.r (.seq (.cond .no .no) (.seq (.blk (.r (.r (.cond .no .no)))) .reg))))))) hK
def qf2.code (a:Int)(H:Heap)(K:KT):Prop:=
 ((0:Int)≤1)∧
 ((0:Int)≤63)∧
 K (.int .u64 (q0d .xor .u64 (u64.wrap ((u64.wrap a)*2 ^ (min (Int.toNat 1) (u64.bits)))) (u64.wrap (Int.fdiv a (2 ^ (min (Int.toNat 63) (i64.bits))))))) H
theorem qf2.call {a H K:_}(hK:qf2.code a H K):CF 119 ⟨[I64 a]⟩ H K:=
 cE Tryz.func119 (.r (.r .no)) hK
def qa5.l1 (K:KT)(o:(Option Addr)→Nat→Nat→Int→Heap→Prop)(j:(Option Addr)→Nat→Nat→Int→Heap→Nat)(b:Option Addr)(c d:Nat)(a:Int)(e:Heap):Prop:=
 IF (decide (128≤a)) (
 AL e [.int .u8 (q0d .or .u8 (u8.wrap a) 128)] 5 fun p q=>
 RunW Tryz.prog (Builtin.append_ #[24,24] 24 #[.slice b c d,.slice (some ⟨p,0,none⟩) 1 1]) q fun r n=>
 ∃f g i,r=(.slice f g i)∧
 ((0:Int)≤7)∧
 o f g i (Int.fdiv a (2 ^ (min (Int.toNat 7) (u64.bits)))) n∧j f g i (Int.fdiv a (2 ^ (min (Int.toNat 7) (u64.bits)))) n < j b c d a e) (
 AL e [.int .u8 (u8.wrap a)] 5 fun s t=>
 RunW Tryz.prog (Builtin.append_ #[24,24] 24 #[.slice b c d,.slice (some ⟨s,0,none⟩) 1 1]) t fun u v=>
 ∃k l m,u=(.slice k l m)∧
 K (.slice k l m) v)
def qa5.code (g:Option Addr)(i j:Nat)(k:Int)(H:Heap)(K:KT):Prop:=
 ∃(a:(Option Addr)→Nat→Nat→Int→Heap→Prop) (l:(Option Addr)→Nat→Nat→Int→Heap→Nat),a g i j k H∧
 ∀(b:Option Addr) (c:Nat) (d:Nat) (e:Int),∀f:Heap,a b c d e f→qa5.l1 K a l b c d e f
theorem qa5.call {a b c d H K:_}(hK:qa5.code a b c d H K):CF 118 ⟨[.slice a b c,.int .u64 d]⟩ H K:=
 cE Tryz.func118 (.r (.seq (.blk (.loop [(0,.one (.slice)),(1,.one (.int .u64))] (.seq (.r (.cond .no .no)) (.seq (.blk .reg) .reg)))) (.r .no))) hK
def q6c.l1 (p:Option Addr)(j:Nat)(K:KT)(q:(Option Addr)→Nat→Nat→Int→Heap→Prop)(k:(Option Addr)→Nat→Nat→Int→Heap→Nat)(c:Option Addr)(d e:Nat)(a:Int)(b:Heap):Prop:=
 IF (decide (a < (j:Int))) (
 ((0:Int)≤a∧a < (j:Int))∧∃m n:Nat,(p=some ⟨m,n,none⟩)∧
 ∃l,q00 b m (n+a.toNat)=some (.int .u64 l)∧
 CF 118 #[.slice c d e,.int .u64 l] b fun r o=>∃f g i,r=(.slice f g i)∧
 q f g i (i64.wrap (a+1)) o∧k f g i (i64.wrap (a+1)) o < k c d e a b) (
 K (.slice c d e) b)
def q6c.code (g:Option Addr)(i k:Nat)(H:Heap)(K:KT):Prop:=
 ∃(a:(Option Addr)→Nat→Nat→Int→Heap→Prop) (j:(Option Addr)→Nat→Nat→Int→Heap→Nat),a none 0 0 0 H∧
 ∀(b:Option Addr) (c:Nat) (d:Nat) (e:Int),∀f:Heap,a b c d e f→q6c.l1 g i K a j b c d e f
theorem q6c.call {a b c H K:_}(hK:q6c.code a b c H K):CF 117 ⟨[.slice a b c]⟩ H K:=
 cE Tryz.func117 (.r (.r (.seq (.r (.blk (.loop [(3,.one (.slice)),(8,.one (.int .i64))] (.r (.seq (.cond .no .no) (.seq (.blk (.r .reg)) .reg)))))) (.r .no)))) hK
def q18.code (a b:Nat)(size e:Int)(H:Heap)(K:KT):Prop:=
 ∃f,q00 H a (b+1)=some (I64 f)∧
 IF (!decide (f=0)) (
 K (.bool false) H) (
 IF (!decide (e=0)) (
 ST H a (b+1) [I64 e] fun i=>
 K (.bool false) i) (
 ∃g c d,q00 H a b=some (.slice g c d)∧
 ((0:Int)≤size∧size≤(c:Int)∧(c:Int)≤(d:Int))∧
 ST H a b [.slice (slB g size.toNat d 1) (c - size.toNat) (d - size.toNat)] fun j=>
 K (.bool true) j))
theorem q18.call {a b c d H K:_}(hK:q18.code a b c d H K):CF 115 ⟨[PA a b,I64 c,I64 d]⟩ H K:=
 cE Tryz.func115 (.r (.seq (.r (.cond (.r .no) .no)) (.seq (.r (.cond (.r (.r .no)) .no)) (.r (.r .no))))) hK
def q4s.code (a b:Nat)(H:Heap)(K:KT):Prop:=
 ∃c d e,q00 H a b=some (.slice c d e)∧
 ∃f r1 r2,CQ 174 #[.slice c d e] H (.tuple #[.int .u64 f,I64 r1,I64 r2])∧
 CF 115 #[PA a b,I64 r1,I64 r2] H fun i g=>∃r3,i=(.bool r3)∧
 IF (!r3) (
 K (.int .u64 0) g) (
 K (.int .u64 f) g)
theorem q4s.call {a b H K:_}(hK:q4s.code a b H K):CF 114 ⟨[PA a b]⟩ H K:=
 cE Tryz.func114 (.r (.r (.seq (.r (.cond (.r .no) .no)) (.r .no)))) hK
def q4t.code (b c:Nat)(H:Heap)(K:KT):Prop:=
 ∃d a e,q00 H b c=some (.slice d a e)∧
 K (I64 (a:Int)) H
theorem q4t.call {a b H K:_}(hK:q4t.code a b H K):CF 111 ⟨[PA a b]⟩ H K:=
 cE Tryz.func111 (.r (.r .no)) hK
def q0v.r1 (d e:Nat)(K:KT)(a r1 j:Int)(f:Heap):Prop:=
 ∃g k b,q00 f d e=some (.slice g k b)∧
 CF 115 #[PA d e,I64 (i64.wrap (r1+a)),I64 j] f fun l c=>∃r3,l=(.bool r3)∧
 IF (!r3) (
 K (.string (⟨#[]⟩:ByteArray)) c) (
 ((0:Int)≤r1∧r1≤(i64.wrap (r1+a))∧(i64.wrap (r1+a))≤(b:Int))∧
 ∃i:ByteArray,q09 Tryz.prog (convert 24 9 (.slice (slB g r1.toNat b 1) (((i64.wrap (r1+a)).toNat) - r1.toNat) (b - r1.toNat))) c (.string i)∧
 K (.string i) c)
def q0v.code (a b:Nat)(l:Int)(H:Heap)(K:KT):Prop:=
 ∃f g i,q00 H a b=some (.slice f g i)∧
 ∃c r1 r2,CQ 168 #[.slice f g i,I64 l] H (.tuple #[I64 c,I64 r1,I64 r2])∧
 (((decide (r2=0))=true)→True)∧
 ∃m e n,(((decide (r2=0))=true)→q00 H a b=some (.slice m e n))∧
 ∀d:Int→Heap→Prop,(∀j k,q0v.r1 a b K c r1 j k→d j k)→
 IF ((decide (r2=0)) && (decide ((i64.wrap ((e:Int) - r1)) < c))) (
 d 15 H) (
 d r2 H)
theorem q0v.call {a b c H K:_}(hK:q0v.code a b c H K):CF 110 ⟨[PA a b,I64 c]⟩ H K:=
 cE Tryz.func110 (.r (.r (.seq (.r (.condJ [(7,.one (.int .i64))] .reg .no)) (.r (.seq (.r (.cond (.r .no) .no)) (.r .no)))))) hK
def qbn.code (a:Int)(H:Heap)(K:KT):Prop:=
 K (.bool ((decide (0≤a)) && (decide (a < 64)))) H
theorem qbn.call {a H K:_}(hK:qbn.code a H K):CF 109 ⟨[I64 a]⟩ H K:=
 cE Tryz.func109 (.r (.r .no)) hK
def qdv.code (a:Int)(H:Heap)(K:KT):Prop:=
 K (.bool ((decide (0≤a)) && (decide (a≤4611686018427387903)))) H
theorem qdv.call {a H K:_}(hK:qdv.code a H K):CF 108 ⟨[I64 a]⟩ H K:=
 cE Tryz.func108 (.r (.r .no)) hK
def qi4.code (d e:Nat)(g e0 x y:Int)(H:Heap)(K:KT):Prop:=
 AL H [I64 e0,I64 x,I64 y] 78 fun c a=>
 ∃j,q00 a c 1=some (I64 j)∧
 ∃k,q00 a c 2=some (I64 k)∧
 ∃f,CQ 169 #[I64 g,I64 j,I64 k] a (.bool f)∧
 ∃i,(((!f)=false)→q00 a c 0=some (I64 i))∧
 ∃l,((((!f) || (decide (i < 1)))=false)→q00 a c 0=some (I64 l))∧
 IF (((!f) || (decide (i < 1))) || (decide (1099511627776 < l))) (
 K (I64 11) a) (
 ∃m,q00 a d (e+1)=some (.map m)∧
 ∃n o p,∃v:Bool,q09 Tryz.prog (Instr.lookup 206 (.map m) (I64 g) true) a (.tuple #[.agg #[I64 n,I64 o,I64 p],.bool v])∧
 AL a [I64 0,I64 0,I64 0] 78 fun z aa=>
 ST aa z 0 [I64 n,I64 o,I64 p] fun b=>
 IF v (
 K (I64 18) b) (
 ∃q,q00 b d (e+1)=some (.map q)∧
 ∃w:Int,q09 Tryz.prog (Builtin.len_ #[206] 3 #[.map q]) b (.int .i64 w)∧
 ∃r,q00 b d e=some (I64 r)∧
 IF (decide (r≤w)) (
 K (I64 20) b) (
 ∃s,q00 b d (e+1)=some (.map s)∧
 ∃c0 t u,q01 b c 0 [I64 c0,I64 t,I64 u]∧
 RunW Tryz.prog (Instr.mapUpdate 206 (.map s) (I64 g) (.agg #[I64 c0,I64 t,I64 u])) b fun ac ab=>
 K (I64 0) ab)))
theorem qi4.call {a b c d e f H K:_}(hK:qi4.code a b c d e f H K):CF 104 ⟨[PA a b,I64 c,.agg #[I64 d,I64 e,I64 f]]⟩ H K:=
 cE Tryz.func104 (.r (.seq (.r (.cond (.r .no) .no)) (.seq (.r (.r (.cond (.r .no) .no))) (.seq (.r (.cond (.r .no) .no)) (.r (.r .no)))))) hK
def q48.code (a b:Nat)(i:Int)(H:Heap)(K:KT):Prop:=
 ∃c d e,q00 H a b=some (.slice c d e)∧
 ∃f r1 r2,CQ 168 #[.slice c d e,I64 i] H (.tuple #[I64 f,I64 r1,I64 r2])∧
 CF 115 #[PA a b,I64 r1,I64 r2] H fun j g=>∃r3,j=(.bool r3)∧
 IF (!r3) (
 K (I64 0) g) (
 K (I64 f) g)
theorem q48.call {a b c H K:_}(hK:q48.code a b c H K):CF 103 ⟨[PA a b,I64 c]⟩ H K:=
 cE Tryz.func103 (.r (.r (.seq (.r (.cond (.r .no) .no)) (.r .no)))) hK
def q5l.code (b c:Nat)(H:Heap)(K:KT):Prop:=
 ∃a,q00 H b (c+1)=some (I64 a)∧
 K (I64 a) H
theorem q5l.call {a b H K:_}(hK:q5l.code a b H K):CF 102 ⟨[PA a b]⟩ H K:=
 cE Tryz.func102 (.r (.r .no)) hK
def q5m.code (c d:Nat)(H:Heap)(K:KT):Prop:=
 CF 114 #[PA c d] H fun e b=>∃a,e=(.int .u64 a)∧
 ∃r1,CQ 167 #[.int .u64 a] b (I64 r1)∧
 K (I64 r1) b
theorem q5m.call {a b H K:_}(hK:q5m.code a b H K):CF 101 ⟨[PA a b]⟩ H K:=
 cE Tryz.func101 (.r (.r .no)) hK
def qdw.code (a:Option Addr)(e f:Nat)(H:Heap)(K:KT):Prop:=
 IF a.isNone (
 K (.slice none 0 0) H) (
 AL H [] 5 fun g i=>
 RunW Tryz.prog (Builtin.append_ #[24,24] 24 #[.slice (some ⟨g,0,none⟩) 0 0,.slice a e f]) i fun j k=>
 ∃b c d,j=(.slice b c d)∧
 K (.slice b c d) k)
theorem qdw.call {a b c H K:_}(hK:qdw.code a b c H K):CF 100 ⟨[.slice a b c]⟩ H K:=
 cE Tryz.func100 (.r (.seq (.r (.cond (.r .no) .no)) (.r .no))) hK
def qcs.code (a b:Nat)(H:Heap)(K:KT):Prop:=
 ∃c,q00 H a b=some (I64 c)∧
 ∃d,q00 H a (b+1)=some (I64 d)∧
 ∃f,q00 H a (b+2)=some (.map f)∧
 CF 157 #[.map f] H fun i e=>∃g,i=(.map g)∧
 q00 e a (b+1)=some (I64 d)∧
 q00 e a b=some (I64 c)∧
 AL e [I64 c,I64 d,.map g] 211 fun j k=>
 K (PA j 0) k
theorem qcs.call {a b H K:_}(hK:qcs.code a b H K):CF 90 ⟨[PA a b]⟩ H K:=
 cE Tryz.func90 (.r (.r .no)) hK
def q7e.code (a:Option Addr)(e f:Nat)(H:Heap)(K:KT):Prop:=
 IF a.isNone (
 K (.slice none 0 0) H) (
 AL H [] 64 fun g i=>
 RunW Tryz.prog (Builtin.append_ #[86,86] 86 #[.slice (some ⟨g,0,none⟩) 0 0,.slice a e f]) i fun j k=>
 ∃b c d,j=(.slice b c d)∧
 K (.slice b c d) k)
theorem q7e.call {a b c H K:_}(hK:q7e.code a b c H K):CF 85 ⟨[.slice a b c]⟩ H K:=
 cE Tryz.func85 (.r (.seq (.r (.cond (.r .no) .no)) (.r .no))) hK
def qbo.code (g i:Nat)(H:Heap)(K:KT):Prop:=
 ∃a,q00 H g (i+2)=some (.map a)∧
 CF 154 #[.map a] H fun j k=>∃b c,j=(.func (.func b) #[] ⟨c⟩)∧
 CF 122 #[.func (.func b) #[] ⟨c⟩] k fun l m=>∃d e f,l=(.slice d e f)∧
 K (.slice d e f) m
theorem qbo.call {a b H K:_}(hK:qbo.code a b H K):CF 83 ⟨[PA a b]⟩ H K:=
 cE Tryz.func83 (.r (.r .no)) hK
def qjy.code (b c:Nat)(H:Heap)(K:KT):Prop:=
 ∃a,q00 H b c=some (I64 a)∧
 K (I64 a) H
theorem qjy.call {a b H K:_}(hK:qjy.code a b H K):CF 82 ⟨[PA a b]⟩ H K:=
 cE Tryz.func82 (.r (.r .no)) hK
def qoe.code (t u:Nat)(v:Int)(H:Heap)(K:KT):Prop:=
 AL H [I64 0,.bool false,.bool false,.bool false] 80 fun p a=>
 ∃b,q00 a t (u+3)=some (.map b)∧
 ∃c d e f,∃o:Bool,q09 Tryz.prog (Instr.lookup 116 (.map b) (I64 v) true) a (.tuple #[.agg #[I64 c,.bool d,.bool e,.bool f],.bool o])∧
 AL a [I64 0,.bool false,.bool false,.bool false] 80 fun q w=>
 ST w q 0 [I64 c,.bool d,.bool e,.bool f] fun r=>
 ∃c0 g i j,q01 r q 0 [I64 c0,.bool g,.bool i,.bool j]∧
 ST r p 0 [I64 c0,.bool g,.bool i,.bool j] fun s=>
 ∃k l m n,q01 s p 0 [I64 k,.bool l,.bool m,.bool n]∧
 K (.tuple #[.agg #[I64 k,.bool l,.bool m,.bool n],.bool o]) s
theorem qoe.call {a b c H K:_}(hK:qoe.code a b c H K):CF 81 ⟨[PA a b,I64 c]⟩ H K:=
 cE Tryz.func81 (.r (.r (.r .no))) hK
def qof.code (q r:Nat)(s:Int)(H:Heap)(K:KT):Prop:=
 AL H [I64 0,I64 0,I64 0] 78 fun m a=>
 ∃b,q00 a q (r+1)=some (.map b)∧
 ∃c d e,∃l:Bool,q09 Tryz.prog (Instr.lookup 206 (.map b) (I64 s) true) a (.tuple #[.agg #[I64 c,I64 d,I64 e],.bool l])∧
 AL a [I64 0,I64 0,I64 0] 78 fun n t=>
 ST t n 0 [I64 c,I64 d,I64 e] fun o=>
 ∃c0 f g,q01 o n 0 [I64 c0,I64 f,I64 g]∧
 ST o m 0 [I64 c0,I64 f,I64 g] fun p=>
 ∃i j k,q01 p m 0 [I64 i,I64 j,I64 k]∧
 K (.tuple #[.agg #[I64 i,I64 j,I64 k],.bool l]) p
theorem qof.call {a b c H K:_}(hK:qof.code a b c H K):CF 80 ⟨[PA a b,I64 c]⟩ H K:=
 cE Tryz.func80 (.r (.r (.r .no))) hK
def q49.code (g:Option Addr)(a b:Nat)(e c:Int)(H:Heap)(K:KT):Prop:=
 ((0:Int)≤e∧e≤c∧c≤(a:Int)∧(a:Int)≤(b:Int))∧
 IF (decide (e=c)) (
 K (.slice g a b) H) (
 ((0:Int)≤0∧(0:Int)≤e∧e≤(b:Int))∧
 ((0:Int)≤c∧c≤(a:Int)∧(a:Int)≤(b:Int))∧
 RunW Tryz.prog (Builtin.append_ #[86,86] 86 #[.slice (slB g 0 b 74) e.toNat b,.slice (slB g c.toNat b 74) (a - c.toNat) (b - c.toNat)]) H fun j k=>
 ∃i d f,j=(.slice i d f)∧
 ((0:Int)≤(d:Int)∧(d:Int)≤(a:Int)∧(a:Int)≤(f:Int))∧
 RunW Tryz.prog (Builtin.clear_ #[86] 0 #[.slice (slB i d f 74) (a - d) (f - d)]) k fun m l=>
 K (.slice i d f) l)
theorem q49.call {a b c d e H K:_}(hK:q49.code a b c d e H K):CF 74 ⟨[.slice a b c,I64 d,I64 e]⟩ H K:=
 cE Tryz.func74 (.r (.r (.seq (.r (.cond (.r .no) .no)) (.r (.r (.r (.r .no))))))) hK
def qf3.code (b c:Nat)(d:Int)(e:Bool)(H:Heap)(K:KT):Prop:=
 AL H [.bool e] 4 fun f g=>
 CF 143 #[PA b c,I64 d,.func (.func 144) #[] #[PA f 0]] g fun i j=>∃a,i=(I64 a)∧
 K (I64 a) j
theorem qf3.call {a b c d H K:_}(hK:qf3.code a b c d H K):CF 69 ⟨[PA a b,I64 c,.bool d]⟩ H K:=
 cE Tryz.func69 (.r (.r .no)) hK
def qi5.code (a b:Nat)(H:Heap)(K:KT):Prop:=
 AL H [PA a b] 110 fun c d=>
 K (.func (.func 120) #[] #[PA c 0]) d
theorem qi5.call {a b H K:_}(hK:qi5.code a b H K):CF 61 ⟨[PA a b]⟩ H K:=
 cE Tryz.func61 (.r (.r .no)) hK
def qct.code (b c:Nat)(H:Heap)(K:KT):Prop:=
 ∃a,q00 H b (c+2)=some (I64 a)∧
 K (I64 a) H
theorem qct.call {a b H K:_}(hK:qct.code a b H K):CF 60 ⟨[PA a b]⟩ H K:=
 cE Tryz.func60 (.r (.r .no)) hK
def q85.l1 (q:Option Addr)(j:Nat)(K:KT)(r:(Option Addr)→Nat→Nat→Int→Heap→Prop)(k:(Option Addr)→Nat→Nat→Int→Heap→Nat)(c:Option Addr)(d e:Nat)(a:Int)(b:Heap):Prop:=
 IF (decide (a < (j:Int))) (
 ((0:Int)≤a∧a < (j:Int))∧∃n o:Nat,(q=some ⟨n,o,none⟩)∧
 ∃l,q00 b n (o+a.toNat)=some (I64 l)∧
 ∃m,CQ 119 #[I64 l] b (.int .u64 m)∧
 CF 118 #[.slice c d e,.int .u64 m] b fun s p=>∃f g i,s=(.slice f g i)∧
 r f g i (i64.wrap (a+1)) p∧k f g i (i64.wrap (a+1)) p < k c d e a b) (
 K (.slice c d e) b)
def q85.code (g:Option Addr)(i k:Nat)(H:Heap)(K:KT):Prop:=
 ∃(a:(Option Addr)→Nat→Nat→Int→Heap→Prop) (j:(Option Addr)→Nat→Nat→Int→Heap→Nat),a none 0 0 0 H∧
 ∀(b:Option Addr) (c:Nat) (d:Nat) (e:Int),∀f:Heap,a b c d e f→q85.l1 g i K a j b c d e f
theorem q85.call {a b c H K:_}(hK:q85.code a b c H K):CF 59 ⟨[.slice a b c]⟩ H K:=
 cE Tryz.func59 (.r (.r (.seq (.r (.blk (.loop [(3,.one (.slice)),(8,.one (.int .i64))] (.r (.seq (.cond .no .no) (.seq (.blk (.r .reg)) .reg)))))) (.r .no)))) hK
def qi6.code (b c:Nat)(H:Heap)(K:KT):Prop:=
 ∃a,q00 H b (c+1)=some (I64 a)∧
 K (I64 a) H
theorem qi6.call {a b H K:_}(hK:qi6.code a b H K):CF 58 ⟨[PA a b]⟩ H K:=
 cE Tryz.func58 (.r (.r .no)) hK
def qog.code (a b:Int)(H:Heap)(K:KT):Prop:=
 IF ((((decide (a < 0)) || (decide (1099511627776 < a))) || (decide (b < 1))) || (decide (256 < b))) (
 K (.tuple #[.pointer none,I64 11]) H) (
 ∀(c:Nat) (d:Heap),c=H.size→d=H.push (.map #[] 0)→
 AL d [I64 a,I64 b,.map (some c)] 211 fun e f=>
 K (.tuple #[PA e 0,I64 0]) f)
theorem qog.call {a b H K:_}(hK:qog.code a b H K):CF 56 ⟨[I64 a,I64 b]⟩ H K:=
 cE Tryz.func56 (.r (.seq (.r (.cond (.r .no) .no)) (.r .no))) hK
def qoh.code (a:Int)(H:Heap)(K:KT):Prop:=
 IF ((decide (a < 1)) || (decide (64 < a))) (
 K (.tuple #[.pointer none,I64 11]) H) (
 ∀(b:Nat) (c:Heap),b=H.size→c=H.push (.map #[] 0)→
 AL c [I64 a,.map (some b)] 208 fun d e=>
 K (.tuple #[PA d 0,I64 0]) e)
theorem qoh.call {a H K:_}(hK:qoh.code a H K):CF 54 ⟨[I64 a]⟩ H K:=
 cE Tryz.func54 (.r (.seq (.r (.cond (.r .no) .no)) (.r .no))) hK
def qoi.code (a:Int)(H:Heap)(K:KT):Prop:=
 IF ((decide (a < 1)) || (decide (1099511627776 < a))) (
 K (.tuple #[.pointer none,I64 11]) H) (
 ∀(b:Nat) (c:Heap),b=H.size→c=H.push (.map #[] 0)→
 AL c [I64 a,I64 0,I64 (i64.wrap (0 - a)),.map (some b)] 191 fun d e=>
 K (.tuple #[PA d 0,I64 0]) e)
theorem qoi.call {a H K:_}(hK:qoi.code a H K):CF 52 ⟨[I64 a]⟩ H K:=
 cE Tryz.func52 (.r (.seq (.r (.cond (.r .no) .no)) (.r .no))) hK
def qdx.code (c:Option Addr)(d e:Nat)(f:Option Addr)(g i:Nat)(H:Heap)(K:KT):Prop:=
 ∃a:ByteArray,q09 Tryz.prog (convert 24 9 (.slice c d e)) H (.string a)∧
 ∃b:ByteArray,q09 Tryz.prog (convert 24 9 (.slice f g i)) H (.string b)∧
 K (.bool (a.toList == b.toList)) H
theorem qdx.call {a b c d e f H K:_}(hK:qdx.code a b c d e f H K):CF 51 ⟨[.slice a b c,.slice d e f]⟩ H K:=
 cE Tryz.func51 (.r (.r .no)) hK
def q11.r1 (c d:Nat)(K:KT)(a:Heap):Prop:=
 ∃b,q00 a c (d+1)=some (I64 b)∧
 K (I64 b) a
def q11.code (a b:Nat)(H:Heap)(K:KT):Prop:=
 ∃f d g,q00 H a b=some (.slice f d g)∧
 ∀c:Heap→Prop,(∀e,q11.r1 a b K e→c e)→
 IF (decide (0 < (d:Int))) (
 CF 115 #[PA a b,I64 0,I64 10] H fun j k=>∃i,j=(.bool i)∧
 c k) (
 c H)
theorem q11.call {a b H K:_}(hK:q11.code a b H K):CF 50 ⟨[PA a b]⟩ H K:=
 cE Tryz.func50 (.r (.seq (.r (.condJ [] .reg .no)) (.r .no))) hK
def q7q.l1 (a b:Nat)(o p:Int)(K:KT)(f i:Nat)(q:Heap→Prop)(g:Heap→Nat)(j:Heap):Prop:=
 RunW Tryz.prog (Instr.next (PA i 0) false 0) j fun ai c=>
 (ai=(.tuple #[.bool false])∧
 IF false (
 ∃k,∃r s t u,q09 Tryz.prog (Instr.entry (PA i 0)) c (.tuple #[I64 k,.agg #[I64 r,.bool s,.bool t,.bool u]])∧
 AL c [I64 0,.bool false,.bool false,.bool false] 80 fun m an=>
 ST an m 0 [I64 r,.bool s,.bool t,.bool u] fun d=>
 ∃r1,CQ 109 #[I64 k] d (.bool r1)∧
 ∃v,(((!r1)=false)→q00 d m 0=some (I64 v))∧
 ∃r2,(((!r1)=false)→CQ 108 #[I64 v] d (.bool r2))∧
 IF ((!r1) || (!r2)) (
 K (I64 11) d) (
 ∃c0 w x y,q01 d m 0 [I64 c0,.bool w,.bool x,.bool y]∧
 RunW Tryz.prog (Instr.mapUpdate 116 (.map (some f)) (I64 k) (.agg #[I64 c0,.bool w,.bool x,.bool y])) d fun ax aj=>
 q aj∧g aj < g j)) (
 ST c a (b+1) [I64 o] fun ao=>
 ST ao a (b+2) [I64 p] fun ap=>
 ST ap a (b+3) [.map (some f)] fun aq=>
 K (I64 0) aq))∨
 (∃al am:Value,ai=(.tuple #[.bool true,al,am])∧
 IF true (
 ∃l,∃z aa ab ac,q09 Tryz.prog (Instr.entry (PA i 0)) c (.tuple #[I64 l,.agg #[I64 z,.bool aa,.bool ab,.bool ac]])∧
 AL c [I64 0,.bool false,.bool false,.bool false] 80 fun n ar=>
 ST ar n 0 [I64 z,.bool aa,.bool ab,.bool ac] fun e=>
 ∃r3,CQ 109 #[I64 l] e (.bool r3)∧
 ∃ad,(((!r3)=false)→q00 e n 0=some (I64 ad))∧
 ∃r4,(((!r3)=false)→CQ 108 #[I64 ad] e (.bool r4))∧
 IF ((!r3) || (!r4)) (
 K (I64 11) e) (
 ∃ae af ag ah,q01 e n 0 [I64 ae,.bool af,.bool ag,.bool ah]∧
 RunW Tryz.prog (Instr.mapUpdate 116 (.map (some f)) (I64 l) (.agg #[I64 ae,.bool af,.bool ag,.bool ah])) e fun ay ak=>
 q ak∧g ak < g j)) (
 ST c a (b+1) [I64 o] fun au=>
 ST au a (b+2) [I64 p] fun av=>
 ST av a (b+3) [.map (some f)] fun aw=>
 K (I64 0) aw))
def q7q.code (e f:Nat)(a c:Int)(m:Option Nat)(H:Heap)(K:KT):Prop:=
 ∃b,CQ 108 #[I64 a] H (.bool b)∧
 (((!b)=false)→True)∧
 ∃j,(((!b)=false)→q00 H e f=some (I64 j))∧
 IF (((!b) || (decide (c < (i64.wrap (a - j))))) || (decide (a < c))) (
 K (I64 11) H) (
 ∀(g:Nat) (i:Heap),g=H.size→i=H.push (.map #[] 0)→
 RunW Tryz.prog (Instr.range 116 (.map m)) i fun o p=>
 ∃k:Nat,o=.pointer (some ⟨k,0,none⟩)∧
 ∃(d:Heap→Prop) (n:Heap→Nat),d p∧
 ∀l:Heap,d l→q7q.l1 e f a c K g k d n l)
theorem q7q.call {a b c d e H K:_}(hK:q7q.code a b c d e H K):CF 46 ⟨[PA a b,I64 c,I64 d,.map e]⟩ H K:=
 qdp (X:=(X.nx [(35,.one (.int .i64),.agg [.int .i64,.bool,.bool,.bool])])) (an:=(.r (.seq (.r (.cond (.r .no) .no)) (.r (.seq (.r (.blk (.loop [] (.r (.seq (.cond .no .no) (.blk (.r (.seq (.r (.cond (.r .no) .no)) .reg)))))))) (.r (.r .no))))))) X_P qmf qcn Tryz.func46 (by kernel_rfl) hK
def qi7.code (d:Option Addr)(e f:Nat)(H:Heap)(K:KT):Prop:=
 CF 100 #[.slice d e f] H fun g i=>∃a b c,g=(.slice a b c)∧
 AL i [.slice a b c,I64 0] 184 fun j k=>
 K (PA j 0) k
theorem qi7.call {a b c H K:_}(hK:qi7.code a b c H K):CF 39 ⟨[.slice a b c]⟩ H K:=
 cE Tryz.func39 (.r (.r .no)) hK
def q86.l1 (l:Option Addr)(c:Nat)(m:Option Addr)(n:Nat)(K:KT)(o:Int→Heap→Prop)(d:Int→Heap→Nat)(a:Int)(b:Heap):Prop:=
 IF (decide (a < (c:Int))) (
 ((0:Int)≤a∧a < (c:Int))∧∃g i:Nat,(l=some ⟨g,i,none⟩)∧
 ∃e,q00 b g (i+a.toNat)=some (.int .u8 e)∧
 ((0:Int)≤a∧a < (n:Int))∧∃j k:Nat,(m=some ⟨j,k,none⟩)∧
 ∃f,q00 b j (k+a.toNat)=some (.int .u8 f)∧
 IF (!decide (e=f)) (
 K (.bool false) b) (
 o (i64.wrap (a+1)) b∧d (i64.wrap (a+1)) b < d a b)) (
 K (.bool true) b)
def q86.code (f:Option Addr)(b j:Nat)(g:Option Addr)(c k:Nat)(H:Heap)(K:KT):Prop:=
 IF (!decide ((b:Int)=(c:Int))) (
 K (.bool false) H) (
 ∃(a:Int→Heap→Prop) (i:Int→Heap→Nat),a 0 H∧
 ∀d e,a d e→q86.l1 f b g c K a i d e)
theorem q86.call {a b c d e f H K:_}(hK:q86.code a b c d e f H K):CF 14 ⟨[.slice a b c,.slice d e f]⟩ H K:=
 cE Tryz.func14 (.r (.seq (.r (.cond (.r .no) .no)) (.seq (.r (.blk (.loop [(5,.one (.int .i64))] (.seq (.r (.cond .no .no)) (.seq (.blk (.r (.cond (.r .no) .no))) .reg))))) (.r .no)))) hK
def qf4.code (d:Option Addr)(e f:Nat)(H:Heap)(K:KT):Prop:=
 AL H [] 5 fun g i=>
 RunW Tryz.prog (Builtin.append_ #[24,24] 24 #[.slice (some ⟨g,0,none⟩) 0 0,.slice d e f]) i fun j k=>
 ∃a b c,j=(.slice a b c)∧
 K (.slice a b c) k
theorem qf4.call {a b c H K:_}(hK:qf4.code a b c H K):CF 12 ⟨[.slice a b c]⟩ H K:=
 cE Tryz.func12 (.r (.r .no)) hK
open Go.Nm Go.RowKit Go.Maps Go.Sort Go.Shelf
theorem q0z {P:Program}{f:FuncId}{args:Array Value}{w:World}{K:Value→Heap→Prop}{Q:Ending→World→Prop}(h:Calls P f args w Q)(hk:∀e w',Q e w'→∃v,e=.returned v∧Go.Nm.Rest w w'∧K v w'.heap):Calls P f args w (Fin w K):=
 h.mono fun e w' hq=>by
  obtain⟨v,rfl,h1,h2⟩:=hk e w' hq;exact⟨h1,h2⟩
theorem z1u (m:Nat):AnyZI.SortsIn Tryz.prog Tryz.sortedA_ren Fence.wide m:=
 ⟨fun blk off cap ss W hH hblk hsz=>callsIn_wide.2 (AnyM.slices_Sort_int Tryz.sortA blk off cap ss W hH hblk hsz),
  fun p cap W=>callsIn_wide.2 (AnyM.slices_Sort_int_none Tryz.sortA p cap W)⟩
theorem qyi {H:Heap}{mb:Option Nat}{K:Value→Heap→Prop}(k:K (.func (.func 178) #[] #[.pointer (some ⟨H.size,0,none⟩)]) (H.push (.cells #[.map mb] 206))) :
  CF 123 #[.map mb] H K:=by
 intro w hw;subst hw;have h:=(callsIn_wide (n:=5)).1 (AnyZI.keys_in Tryz.keysA Fence.wide 5 trivial rfl mb w);refine q0z h ?_;rintro e w' ⟨rfl,rfl⟩;exact⟨_,rfl,⟨rfl,rfl,rfl⟩,k⟩
set_option maxHeartbeats 1000000 in
theorem qqx {α:Type}{venc:α→Value}{H:Heap}{L:List Assn}{r:Nat}{m:List (Int × α)}(h:SatL H L)(i:Nat)(hA:nth i L=mapA (Value.int .i64) venc r m)(hr:∀x∈q03 m,wf64 x)(hsz:m.length≤17592186044416){K:Value→Heap→Prop}
  (k:∀a c H',SatL H' (slA 2 1 a m.length c ((q7n (q03 m)).map (Value.int .i64))::L)→Grow H H'→K (.slice a m.length c) H') :
  CF 122 #[.func (.func 178) #[] #[.pointer (some ⟨H.size,0,none⟩)]] (H.push (.cells #[.map (some r)] 206)) K:=by
 intro w hw;have g:Grow H w.heap:=by rw [hw]; exact Grow.push _ _
 have h2:SatL w.heap L:=h.grow g;have h3:=h2.foc i;rw [hA] at h3;obtain⟨D0,hown,hperm,hsize⟩:=qgj (k:=2) Tryz.underlying2 h3 hr (by unfold maxLen; omega);have hcell:w.cell? ⟨H.size,0,none⟩=some (.map (some r)):=by
  simp [World.cell?,hw]
 have hseq:SeqGives Fence.wide 2 Tryz.prog 178 #[.pointer (some ⟨H.size,0,none⟩)] encZ (fun ss=>ss.Perm (intKeys D0)) (Maps.size D0) w:=
  AnyZI.keys_gives (ρ:=Tryz.keysA_ren) { Tryz.keysA with } Fence.wide _ trivial rfl (by omega) H.size r m.length D0 w (by rw [hw]; simp) hcell hown
 have cS:=AnyZI.sorted_in Tryz.sortedA Fence.wide 5 trivial trivial trivial trivial rfl (by omega) (z1u _) (enters_of Tryz.func177 (by kernel_rfl) rfl) 178 #[.pointer (some ⟨H.size,0,none⟩)] trivial (enters_of Tryz.func178 (by kernel_rfl) rfl) _ _ (by unfold maxLen; omega) (by omega) w hseq;change CallsIn _ _ Tryz.prog 122 _ _ _ at cS;refine q0z ((callsIn_wide (n:=5)).1 cS) ?_;rintro e w' ⟨v,ss,rfl,hS,hrow,hnil,hb⟩;obtain⟨a,c,rfl,h4⟩:=h2.of_row hb hrow;have hp:ss.Perm (q03 m):=hS.trans hperm;have hl:ss.length=m.length:=by rw [hp.length_eq]; simp [q03]
 have he:ss.mergeSort (fun x y=>decide (x≤y))=q7n (q03 m):=qgi hp
 rw [he,hl] at h4;refine⟨_,rfl,q7o hb,?_⟩;rw [hl];exact k a c _ h4 (g.trans (q5g hb))
theorem qtp {α:Type}{venc:α→Value}{H:Heap}{L:List Assn}{r:Nat}{m:List (Int × α)}(h:SatL H L)(i:Nat)(hA:nth i L=mapA (Value.int .i64) venc r m){K:Value→Heap→Prop}
  (k:∀H',SatL H' (mapA (Value.int .i64) venc H.size m::L)→Grow H H'→K (.map (some H.size)) H') :
  CF 121 #[.map (some r)] H K:=by
 intro w hw;subst hw;have h3:=h.foc i;rw [hA] at h3;obtain⟨hn,es,clock,h4,h5,h6,h7⟩:=q3x h3;have hc:=AnyW.maps_Clone Tryz.cloneA r es clock w h7.get;refine q0z hc ?_;rintro e w' ⟨rfl,rfl⟩;refine⟨_,rfl,⟨rfl,rfl,rfl⟩,k _ ?_ (Grow.push _ _)⟩;exact (h.push (.map es clock)).mono fun p hp=>⟨hn,es,clock,h4,h5,h6,hp⟩
theorem qyj {H:Heap}{mb:Option Nat}{K:Value→Heap→Prop}(k:K (.func (.func 199) #[] #[.pointer (some ⟨H.size,0,none⟩)]) (H.push (.cells #[.map mb] 209))) :
  CF 154 #[.map mb] H K:=by
 intro w hw;subst hw;have h:=(callsIn_wide (n:=5)).1 (AnyZI.keys_in Tryz.keysA2 Fence.wide 5 trivial rfl mb w);refine q0z h ?_;rintro e w' ⟨rfl,rfl⟩;exact⟨_,rfl,⟨rfl,rfl,rfl⟩,k⟩
set_option maxHeartbeats 1000000 in
theorem qqy {α:Type}{venc:α→Value}{H:Heap}{L:List Assn}{r:Nat}{m:List (Int × α)}(h:SatL H L)(i:Nat)(hA:nth i L=mapA (Value.int .i64) venc r m)(hr:∀x∈q03 m,wf64 x)(hsz:m.length≤17592186044416){K:Value→Heap→Prop}
  (k:∀a c H',SatL H' (slA 2 1 a m.length c ((q7n (q03 m)).map (Value.int .i64))::L)→Grow H H'→K (.slice a m.length c) H') :
  CF 122 #[.func (.func 199) #[] #[.pointer (some ⟨H.size,0,none⟩)]] (H.push (.cells #[.map (some r)] 209)) K:=by
 intro w hw;have g:Grow H w.heap:=by rw [hw]; exact Grow.push _ _
 have h2:SatL w.heap L:=h.grow g;have h3:=h2.foc i;rw [hA] at h3;obtain⟨D0,hown,hperm,hsize⟩:=qgj (k:=2) Tryz.underlying2 h3 hr (by unfold maxLen; omega);have hcell:w.cell? ⟨H.size,0,none⟩=some (.map (some r)):=by
  simp [World.cell?,hw]
 have hseq:SeqGives Fence.wide 2 Tryz.prog 199 #[.pointer (some ⟨H.size,0,none⟩)] encZ (fun ss=>ss.Perm (intKeys D0)) (Maps.size D0) w:=
  AnyZI.keys_gives (ρ:=Tryz.keysA2_ren) { Tryz.keysA2 with } Fence.wide _ trivial rfl (by omega) H.size r m.length D0 w (by rw [hw]; simp) hcell hown
 have cS:=AnyZI.sorted_in Tryz.sortedA Fence.wide 5 trivial trivial trivial trivial rfl (by omega) (z1u _) (enters_of Tryz.func177 (by kernel_rfl) rfl) 199 #[.pointer (some ⟨H.size,0,none⟩)] trivial (enters_of Tryz.func199 (by kernel_rfl) rfl) _ _ (by unfold maxLen; omega) (by omega) w hseq;change CallsIn _ _ Tryz.prog 122 _ _ _ at cS;refine q0z ((callsIn_wide (n:=5)).1 cS) ?_;rintro e w' ⟨v,ss,rfl,hS,hrow,hnil,hb⟩;obtain⟨a,c,rfl,h4⟩:=h2.of_row hb hrow;have hp:ss.Perm (q03 m):=hS.trans hperm;have hl:ss.length=m.length:=by rw [hp.length_eq]; simp [q03]
 have he:ss.mergeSort (fun x y=>decide (x≤y))=q7n (q03 m):=qgi hp
 rw [he,hl] at h4;refine⟨_,rfl,q7o hb,?_⟩;rw [hl];exact k a c _ h4 (g.trans (q5g hb))
theorem qtq {α:Type}{venc:α→Value}{H:Heap}{L:List Assn}{r:Nat}{m:List (Int × α)}(h:SatL H L)(i:Nat)(hA:nth i L=mapA (Value.int .i64) venc r m){K:Value→Heap→Prop}
  (k:∀H',SatL H' (mapA (Value.int .i64) venc H.size m::L)→Grow H H'→K (.map (some H.size)) H') :
  CF 157 #[.map (some r)] H K:=by
 intro w hw;subst hw;have h3:=h.foc i;rw [hA] at h3;obtain⟨hn,es,clock,h4,h5,h6,h7⟩:=q3x h3;have hc:=AnyW.maps_Clone Tryz.cloneA3 r es clock w h7.get;refine q0z hc ?_;rintro e w' ⟨rfl,rfl⟩;refine⟨_,rfl,⟨rfl,rfl,rfl⟩,k _ ?_ (Grow.push _ _)⟩;exact (h.push (.map es clock)).mono fun p hp=>⟨hn,es,clock,h4,h5,h6,hp⟩
theorem qyk {H:Heap}{mb:Option Nat}{K:Value→Heap→Prop}(k:K (.func (.func 264) #[] #[.pointer (some ⟨H.size,0,none⟩)]) (H.push (.cells #[.map mb] 116))) :
  CF 227 #[.map mb] H K:=by
 intro w hw;subst hw;have h:=(callsIn_wide (n:=5)).1 (AnyZI.keys_in Tryz.keysA3 Fence.wide 5 trivial rfl mb w);refine q0z h ?_;rintro e w' ⟨rfl,rfl⟩;exact⟨_,rfl,⟨rfl,rfl,rfl⟩,k⟩
set_option maxHeartbeats 1000000 in
theorem qqz {α:Type}{venc:α→Value}{H:Heap}{L:List Assn}{r:Nat}{m:List (Int × α)}(h:SatL H L)(i:Nat)(hA:nth i L=mapA (Value.int .i64) venc r m)(hr:∀x∈q03 m,wf64 x)(hsz:m.length≤17592186044416){K:Value→Heap→Prop}
  (k:∀a c H',SatL H' (slA 2 1 a m.length c ((q7n (q03 m)).map (Value.int .i64))::L)→Grow H H'→K (.slice a m.length c) H') :
  CF 122 #[.func (.func 264) #[] #[.pointer (some ⟨H.size,0,none⟩)]] (H.push (.cells #[.map (some r)] 116)) K:=by
 intro w hw;have g:Grow H w.heap:=by rw [hw]; exact Grow.push _ _
 have h2:SatL w.heap L:=h.grow g;have h3:=h2.foc i;rw [hA] at h3;obtain⟨D0,hown,hperm,hsize⟩:=qgj (k:=2) Tryz.underlying2 h3 hr (by unfold maxLen; omega);have hcell:w.cell? ⟨H.size,0,none⟩=some (.map (some r)):=by
  simp [World.cell?,hw]
 have hseq:SeqGives Fence.wide 2 Tryz.prog 264 #[.pointer (some ⟨H.size,0,none⟩)] encZ (fun ss=>ss.Perm (intKeys D0)) (Maps.size D0) w:=
  AnyZI.keys_gives (ρ:=Tryz.keysA3_ren) { Tryz.keysA3 with } Fence.wide _ trivial rfl (by omega) H.size r m.length D0 w (by rw [hw]; simp) hcell hown
 have cS:=AnyZI.sorted_in Tryz.sortedA Fence.wide 5 trivial trivial trivial trivial rfl (by omega) (z1u _) (enters_of Tryz.func177 (by kernel_rfl) rfl) 264 #[.pointer (some ⟨H.size,0,none⟩)] trivial (enters_of Tryz.func264 (by kernel_rfl) rfl) _ _ (by unfold maxLen; omega) (by omega) w hseq;change CallsIn _ _ Tryz.prog 122 _ _ _ at cS;refine q0z ((callsIn_wide (n:=5)).1 cS) ?_;rintro e w' ⟨v,ss,rfl,hS,hrow,hnil,hb⟩;obtain⟨a,c,rfl,h4⟩:=h2.of_row hb hrow;have hp:ss.Perm (q03 m):=hS.trans hperm;have hl:ss.length=m.length:=by rw [hp.length_eq]; simp [q03]
 have he:ss.mergeSort (fun x y=>decide (x≤y))=q7n (q03 m):=qgi hp
 rw [he,hl] at h4;refine⟨_,rfl,q7o hb,?_⟩;rw [hl];exact k a c _ h4 (g.trans (q5g hb))
theorem qtr {α:Type}{venc:α→Value}{H:Heap}{L:List Assn}{r:Nat}{m:List (Int × α)}(h:SatL H L)(i:Nat)(hA:nth i L=mapA (Value.int .i64) venc r m){K:Value→Heap→Prop}
  (k:∀H',SatL H' (mapA (Value.int .i64) venc H.size m::L)→Grow H H'→K (.map (some H.size)) H') :
  CF 156 #[.map (some r)] H K:=by
 intro w hw;subst hw;have h3:=h.foc i;rw [hA] at h3;obtain⟨hn,es,clock,h4,h5,h6,h7⟩:=q3x h3;have hc:=AnyW.maps_Clone Tryz.cloneA2 r es clock w h7.get;refine q0z hc ?_;rintro e w' ⟨rfl,rfl⟩;refine⟨_,rfl,⟨rfl,rfl,rfl⟩,k _ ?_ (Grow.push _ _)⟩;exact (h.push (.map es clock)).mono fun p hp=>⟨hn,es,clock,h4,h5,h6,hp⟩
open Go.Nm
theorem sl32:SlT Tryz.prog 24 5 1 1:=qbf (by kernel_rfl)
section
variable {F L:List Assn} {H:Heap} {K:Value→Heap→Prop}
theorem qyl {a:Option Addr}{c:Nat}{bs:List Int}(h:SatL H L)(ha:∀H,SatL H L→rdS H a (bs.map U8))(hl:bs.length≤1099511627776)
  (k:∀a' c' H',SatL H' (slA 5 1 a' bs.length c' (bs.map U8)::L)→K (.slice a' bs.length c') H'):CF 100 #[.slice a bs.length c] H K:=by
 refine qdw.call ⟨fun hc=>?_,fun hc=>?_⟩
 ·have:a=none:=by simpa using hc
  subst this;have hz:=qcm (ha H h);have:bs=[]:=by simpa using hz
  subst this;exact k none 0 H (h.sl_nil 5 1)
 ·refine h.al fun b _ h=>?_
  have hr:=ha _ h.tl;have h1:=SatL.sl_pt (cs:=[]) h 1 0 rfl;refine SatL.append (m:=bs.length) sl32 h1 0 rfl hr (by simp) (qev (fun _=>rfl) _) (by omega) (by omega) fun a' c' H' h2=>⟨_,_,_,rfl,?_⟩
  have h3:SatL H' (slA 5 1 a' (0+bs.length) c' ([]++bs.map U8)::L):=h2;rw [z5p,z6l] at h3;have:=k a' c' H' h3;simpa using this
end
open Go.Nm
section
variable {F L:List Assn} {H:Heap} {K:Value→Heap→Prop}
theorem qln {H:Heap}{a b:Option Addr}{c d:Nat}{xs ys:List Int}(ha:rdS H a (xs.map U8))(hb:rdS H b (ys.map U8))(hl:xs.length≤1099511627776) :
  q1o Tryz.prog 14 #[.slice a xs.length c,.slice b ys.length d] H (.bool (decide (xs=ys))):=by
 unfold q1o;refine q86.call ?_;unfold q86.code;refine⟨fun hc=>?_,fun hc=>?_⟩
 ·have:xs.length≠ys.length:=by simp at hc; omega
  refine⟨?_,rfl⟩;rw [z6m (fun e=>this (by rw [e]))]
 ·have hlen:xs.length=ys.length:=by simp at hc; omega
  refine⟨fun i H'=>H'=H∧∃k:Nat,i=k∧k≤xs.length∧xs.take k=ys.take k,fun i _=>xs.length - i.toNat,⟨rfl,0,rfl,z5s _,rfl⟩,?_⟩
  rintro i H' ⟨rfl,k,rfl,hk,ht⟩;unfold q86.l1;refine⟨fun hc2=>?_,fun hc2=>?_⟩
  ·have hlt:k < xs.length:=by simpa using hc2
   have h1:=ha.at hlt;have h2:=hb.at (j:=k) (by omega);have e3:i64.wrap ((k:Int)+1)=((k+1:Nat):Int):=w64 (by omega) (by omega);refine⟨⟨by omega,by omega⟩,_,_,h1.1,_,h1.2,⟨by omega,by omega⟩,_,_,h2.1,_,h2.2,fun hc3=>?_,fun hc3=>?_⟩
   ·have:xs[k]≠ys[k]:=by simpa using hc3
    refine⟨?_,rfl⟩;rw [z6m (fun e=>this (by simp [e]))]
   ·have:xs[k]=ys[k]:=by simpa using hc3
    rw [e3];refine⟨⟨rfl,k+1,rfl,hlt,?_⟩,by simp only [z5a]; omega⟩;rw [z6d hlt,z6d (by omega),ht,this]
  ·have:k=xs.length:=by
    have:¬((k:Int) < xs.length):=by simpa using hc2
    omega
   subst this;rw [z5o (z5c _),z5o (by omega)] at ht;exact⟨by rw [z5m ht],rfl⟩
theorem qoj {a:Option Addr}{c:Nat}{bs:List Int}(h:SatL H L)(ha:∀H,SatL H L→rdS H a (bs.map U8))(hl:bs.length≤1099511627776)
  (k:∀a' c' H',SatL H' (slA 5 1 a' bs.length c' (bs.map U8)::L)→K (.slice a' bs.length c') H'):CF 12 #[.slice a bs.length c] H K:=by
 refine qf4.call ?_;unfold qf4.code;refine h.al fun b _ h=>?_
 have hr:=ha _ h.tl;have h1:=SatL.sl_pt (cs:=[]) h 1 0 rfl;refine SatL.append (m:=bs.length) sl32 h1 0 rfl hr (by simp) (qev (fun _=>rfl) _) (by omega) (by omega) fun a' c' H' h2=>⟨_,_,_,rfl,?_⟩
 have h3:SatL H' (slA 5 1 a' (0+bs.length) c' ([]++bs.map U8)::L):=h2;rw [z5p,z6l] at h3;have:=k a' c' H' h3;simpa using this
end
end Go.Proofs.YtfmkddccnjidmaaGreatDoor
namespace Go.Nm
theorem rdS.subB {H:Heap}{a:Option Addr}{cs:List Value}{k c:Nat}(h:rdS H a cs)(hc:cs.length≤c):rdS H (slB a k c 1) (cs.drop k):=by
 intro j v hj;have hj2:lget cs (k+j)=Option.some v:=by
  rw [q1c] at hj ⊢;rw [List.getElem?_drop] at hj;exact hj
 obtain⟨h1,h2⟩:=h (k+j) v hj2;have hlt:=qbg hj2;have e:slB a k c 1=Option.some ⟨adrB a,adrO a+k,none⟩:=by
  unfold slB;rw [if_neg (by omega),h1,z62,q47,z6w]; rfl
 rw [e];refine⟨rfl,?_⟩;show q00 H (adrB a) (adrO a+k+j)=Option.some v;rw [z6e]; exact h2
theorem u8w {x:Int}(h1:0≤x)(h2:x < 256):u8.wrap x=x:=by
 simp only [IntKind.wrap,IntKind.bits,IntKind.signed] at *
 first|omega|(simp; omega)
theorem u64w {x:Int}(h1:0≤x)(h2:x < 18446744073709551616):u64.wrap x=x:=by
 simp only [IntKind.wrap,IntKind.bits,IntKind.signed] at *
 first|omega|(simp; omega)
def q04 (l:List Int):Prop:=∀x∈l,0≤x∧x < 256
def q1x (u:Nat):List Int:=if h:u < 128 then [(u:Int)] else ((128+u % 128:Nat):Int)::q1x (u / 128)
termination_by u
decreasing_by omega
theorem qf5 {u:Nat}(h:u < 128):q1x u=[(u:Int)]:=by rw [q1x,dif_pos h]
theorem qf6 {u:Nat}(h:¬u < 128):q1x u=((128+u % 128:Nat):Int)::q1x (u / 128):=by rw [q1x,dif_neg h]
theorem q87 (u:Nat):q04 (q1x u):=by
 induction u using Nat.strongRecOn with
 | _ u ih=>
  by_cases h:u < 128
  ·rw [qf5 h];intro x hx;rw [z60] at hx;omega
  ·rw [qf6 h];intro x hx
   rcases z5l.1 hx with rfl|hx
   ·omega
   ·exact ih (u / 128) (by omega) x hx
inductive UR where
 | ok (u:Nat) (size:Nat)
 | form
 | ended
 deriving DecidableEq
def rdU:Nat→Nat→List Int→UR
 | _,_,[]=>.ended
 | acc,i,c::r=>if (c=0∧0 < i)∨(1 < c∧i=9) then .form else
   if c < 128 then .ok (acc+c.toNat % 128*2 ^ (7*i)) (i+1) else rdU (acc+c.toNat % 128*2 ^ (7*i)) (i+1) r
theorem qr0:∀{l:List Int} {acc i u n:Nat},q04 l→rdU acc i l=.ok u n→i≤9→
  ∃w,u=acc+w*2 ^ (7*i)∧i < n∧n - i≤l.length∧q1x w=l.take (n - i)∧n≤10∧(0 < i→w≠0)∧w*2 ^ (7*i) < 2 ^ 64
 | [],acc,i,u,n,_,h,_=>by simp [rdU] at h
 | c::r,acc,i,u,n,hb,h,hi=>by
  have hc:=hb c z5i;rw [rdU] at h
  split at h
  ·cases h
  ·rename_i hf
   split at h
   ·rename_i hlt
    cases h
    refine⟨c.toNat,?_,by omega,?_,?_,by omega,fun h0=>?_,?_⟩
    ·rw [z6u (by omega)]
    ·simp only [z59]; omega
    ·rw [qf5 (by omega),show i+1 - i=1 by omega];simp only [List.take_succ_cons,List.take_zero];rw [z7y hc.1]
    ·intro e;exact hf (Or.inl ⟨by omega,h0⟩)
    ·by_cases h9:i=9
     ·subst h9;have:c.toNat≤1:=by
       by_cases h1:1 < c
       ·exact absurd (Or.inr ⟨h1,rfl⟩) hf
       ·omega
      calc c.toNat*2 ^ (7*9)≤1*2 ^ (7*9):=z6c _ this
       _ < 2 ^ 64:=by decide
     ·calc c.toNat*2 ^ (7*i) < 128*2 ^ (7*i):=(Nat.mul_lt_mul_right (z6y _)).2 (by omega)
       _=2 ^ (7+7*i):=by rw [z6f]
       _≤2 ^ 64:=Nat.pow_le_pow_right (by decide) (by omega)
   ·rename_i hge;have h9:i≠9:=fun e=>hf (Or.inr ⟨by omega,e⟩)
    obtain⟨w,e1,e2,e3,e4,e5,e6,e7⟩:=qr0 (fun x hx=>hb x (z5j _ hx)) h (by omega)
    have hw:=e6 (by omega);have em:c.toNat % 128+128*w=c.toNat % 128+w*128:=by omega
    have ep:(2:Nat) ^ (7*(i+1))=128*2 ^ (7*i):=by rw [show 7*(i+1)=7+7*i by omega,z6f]
    refine⟨c.toNat % 128+128*w,?_,by omega,?_,?_,e5,fun _=>by omega,?_⟩
    ·rw [e1,ep,z5x,← Nat.mul_assoc,Nat.mul_comm w 128,z6e]
    ·simp only [z59]; omega
    ·rw [qf6 (by omega),show n - i=(n - (i+1))+1 by omega,List.take_succ_cons,← e4];congr 1
     ·omega
     ·congr 1;omega
    ·rw [ep] at e7;have h5:i+1≤9:=by omega
     have h6:w*2 ^ (7*(i+1)) < 2 ^ (64 - 7*(i+1))*2 ^ (7*(i+1)):=by
      rw [← z6f,show 64 - 7*(i+1)+7*(i+1)=64 by omega,ep];exact e7
     have h7:w < 2 ^ (64 - 7*(i+1)):=Nat.lt_of_mul_lt_mul_right h6
     calc (c.toNat % 128+128*w)*2 ^ (7*i) < (128*2 ^ (64 - 7*(i+1)))*2 ^ (7*i):=(Nat.mul_lt_mul_right (z6y _)).2 (by omega)
      _=2 ^ 64:=by rw [show (128:Nat)=2 ^ 7 from rfl,← z6f,← z6f,show 7+(64 - 7*(i+1))+7*i=64 by omega]
theorem z1v:∀{w acc i:Nat} (r:List Int),w < 2 ^ (64 - 7*i)→i≤9→(0 < i→w≠0)→
  rdU acc i (q1x w++r)=.ok (acc+w*2 ^ (7*i)) (i+(q1x w).length):=by
 intro w
 induction w using Nat.strongRecOn with
 | _ w ih=>
  intro acc i r hw hi h0
  by_cases h:w < 128
  ·rw [qf5 h,List.singleton_append,rdU,if_neg,if_pos (by omega)]
   ·rw [z5a,z6u h];rfl
   ·rintro (⟨h1,h2⟩|⟨h1,h2⟩)
    ·exact h0 h2 (by omega)
    ·subst h2;have:w < 2:=by simpa using hw
     omega
  ·have h9:i≠9:=by
    intro e;subst e;have:w < 2:=by simpa using hw
    omega
   rw [qf6 h,z7b,rdU,if_neg,if_neg (by omega),ih (w / 128) (by omega) r ?_ (by omega) (fun _=>by omega)]
   ·have ep:(2:Nat) ^ (7*(i+1))=128*2 ^ (7*i):=by rw [show 7*(i+1)=7+7*i by omega,z6f]
    congr 1
    ·rw [z5a,ep,z6e,show (128+w % 128) % 128=w % 128 by omega,← Nat.mul_assoc,← z5x];congr 2;omega
    ·simp only [z59]; omega
   ·rw [z78 (by decide)]
    calc w < 2 ^ (64 - 7*i):=hw
     _=2 ^ (64 - 7*(i+1))*128:=by rw [show (128:Nat)=2 ^ 7 from rfl,← z6f,show 64 - 7*(i+1)+7=64 - 7*i by omega]
   ·rintro (⟨h1,h2⟩|⟨h1,h2⟩)
    ·omega
    ·exact h9 h2
theorem z1w:∀{w i:Nat},w < 2 ^ (64 - 7*i)→i≤9→i+(q1x w).length≤10:=by
 intro w
 induction w using Nat.strongRecOn with
 | _ w ih=>
  intro i hw hi
  by_cases h:w < 128
  ·rw [qf5 h]; simp only [z6x]; omega
  ·have h9:i≠9:=by
    intro e;subst e;have:w < 2:=by simpa using hw
    omega
   rw [qf6 h];have:=ih (w / 128) (by omega) (i:=i+1) (by
    rw [z78 (by decide)]
    calc w < 2 ^ (64 - 7*i):=hw
     _=2 ^ (64 - 7*(i+1))*128:=by rw [show (128:Nat)=2 ^ 7 from rfl,← z6f,show 64 - 7*(i+1)+7=64 - 7*i by omega]) (by omega)
   simp only [z59];omega
theorem u8_of (n:Nat):u8.wrap (n:Int)=((n % 256:Nat):Int):=by
 simp only [IntKind.wrap,IntKind.bits,IntKind.signed]
 <;> (try simp) <;> (try omega)
theorem or8_all:∀n,n < 256→(n ||| 128)=128+n % 128:=by decide +kernel
theorem z1x (n:Nat):q0d .or .u8 (u8.wrap (n:Int)) 128=((128+n % 128:Nat):Int):=by
 rw [u8_of];unfold q0d;have e1:(BitVec.ofInt u8.bits ((n % 256:Nat):Int)).toNat=n % 256:=by
  rw [BitVec.ofInt_natCast,BitVec.toNat_ofNat];exact z6u (z6j _ (by decide))
 have e2:(BitVec.ofInt u8.bits (128:Int)).toNat=128:=by decide
 have:u8.wrap (((n % 256) ||| 128:Nat):Int)=((128+n % 128:Nat):Int):=by
  rw [or8_all _ (z6j _ (by decide)),u8_of];omega
 show u8.wrap ((BitVec.ofInt u8.bits ((n % 256:Nat):Int) ||| BitVec.ofInt u8.bits 128).toNat:Int)=_;rw [BitVec.toNat_or,e1,e2,this]
theorem shift7 (n:Nat):Int.fdiv (n:Int) (2 ^ (min (Int.toNat 7) (u64.bits)))=((n / 128:Nat):Int):=by
 show Int.fdiv (n:Int) 128=_;rw [z7p _ (by decide)];omega
end Go.Nm
namespace Go.Proofs.YtfmkddccnjidmaaGreatDoor
open Go.Nm
section
variable {F L:List Assn} {H:Heap} {K:Value→Heap→Prop}
theorem uintB_len10 {u:Nat}(hu:u < 18446744073709551616):(q1x u).length≤10:=by
 have:=z1w (w:=u) (i:=0) (by simpa using hu) (by omega);omega
theorem qok {a:Option Addr}{c:Nat}{bs:List Int}{u:Nat}(h:SatL H (slA 5 1 a bs.length c (bs.map U8)::F))(hl:bs.length≤1099511627776)(hu:u < 18446744073709551616)
  (k:∀a' c' H',SatL H' (slA 5 1 a' (bs++q1x u).length c' ((bs++q1x u).map U8)::F)→K (.slice a' (bs++q1x u).length c') H') :
  CF 118 #[.slice a bs.length c,.int .u64 u] H K:=by
 refine qa5.call ?_;unfold qa5.code;refine⟨fun a' n' c' u' H'=>∃(cs:List Int) (w:Nat),n'=cs.length∧u'=w∧w < 18446744073709551616∧cs++q1x w=bs++q1x u∧SatL H' (slA 5 1 a' cs.length c' (cs.map U8)::F),fun _ _ _ u _=>u.toNat,
  ⟨bs,u,rfl,rfl,hu,rfl,h⟩,?_⟩
 rintro a1 n1 c1 u1 H1 ⟨cs,w,rfl,rfl,hw,he,h1⟩;have hcl:cs.length≤1099511627786:=by
  have:=congrArg List.length he;simp only [z51] at this;have:=uintB_len10 hu;omega
 unfold qa5.l1;refine⟨fun hc=>?_,fun hc=>?_⟩
 ·have h128:¬w < 128:=by simp at hc; omega
  rintro _ _ rfl rfl;rw [z1x,shift7];refine h1.append1 sl32 0 rfl (by rfl) (by rfl) (by omega) (by omega) fun a' c' H3 h3=>⟨_,_,_,rfl,by decide,?_,by dsimp only; omega⟩
  refine⟨cs++[((128+w % 128:Nat):Int)],w / 128,by simp,rfl,by omega,?_,?_⟩
  ·rw [← he,qf6 h128,z5d,List.singleton_append]
  ·rw [z5v,z51];exact h3
 ·have h128:w < 128:=by simp at hc; omega
  rintro _ _ rfl rfl;rw [u8_of];refine h1.append1 sl32 0 rfl (by rfl) (by rfl) (by omega) (by omega) fun a' c' H3 h3=>⟨_,_,_,rfl,?_⟩
  have:=k a' c' H3;rw [← he,qf5 h128,z51] at this;refine this ?_;rw [z5v];rw [z6u (by omega)] at h3;exact h3
end
end Go.Proofs.YtfmkddccnjidmaaGreatDoor
namespace Go.Nm
theorem qw9 {a m p:Nat}(ha:a < 2 ^ p)(h:a+m*2 ^ p < 18446744073709551616):q0d .or .u64 (a:Int) ((m*2 ^ p:Nat):Int)=((a+m*2 ^ p:Nat):Int):=by
 have h1:a < 18446744073709551616:=by omega
 have h2:m*2 ^ p < 18446744073709551616:=by omega
 have e1:(BitVec.ofInt u64.bits (a:Int)).toNat=a:=by
  rw [BitVec.ofInt_natCast,BitVec.toNat_ofNat]; exact z6u h1
 have e2:(BitVec.ofInt u64.bits ((m*2 ^ p:Nat):Int)).toNat=m*2 ^ p:=by
  rw [BitVec.ofInt_natCast,BitVec.toNat_ofNat]; exact z6u h2
 have e3:a ||| m*2 ^ p=a+m*2 ^ p:=by
  rw [Nat.mul_comm m,Nat.or_comm,← Nat.two_pow_add_eq_or_of_lt ha,Nat.add_comm]
 show u64.wrap ((BitVec.ofInt u64.bits (a:Int) ||| BitVec.ofInt u64.bits ((m*2 ^ p:Nat):Int)).toNat:Int)=_;rw [BitVec.toNat_or,e1,e2,e3,u64w (by omega) (by omega)]
theorem part64 {c:Int}{i:Nat}(h0:0≤c)(h1:c < 256)(hi:i≤9)(h9:i=9→c≤1) :
  u64.wrap ((u64.wrap (Int.tmod c 128))*2 ^ (min (7*i) 64))=((c.toNat % 128*2 ^ (7*i):Nat):Int)∧c.toNat % 128*2 ^ (7*i)+2 ^ (7*i)≤18446744073709551616:=by
 have em:Int.tmod c 128=((c.toNat % 128:Nat):Int):=by rw [Int.tmod_eq_emod_of_nonneg h0]; omega
 have hb:c.toNat % 128*2 ^ (7*i)+2 ^ (7*i)≤18446744073709551616:=by
  have e:c.toNat % 128*2 ^ (7*i)+2 ^ (7*i)=(c.toNat % 128+1)*2 ^ (7*i):=by rw [z5x,Nat.one_mul]
  rw [e]
  by_cases h:i=9
  ·have:=h9 h;subst h
   calc (c.toNat % 128+1)*2 ^ (7*9)≤2*2 ^ (7*9):=z6c _ (by omega)
    _=18446744073709551616:=by decide
  ·calc (c.toNat % 128+1)*2 ^ (7*i)≤128*2 ^ (7*8):=Nat.mul_le_mul (by omega) (Nat.pow_le_pow_right (by decide) (by omega))
    _≤18446744073709551616:=by decide
 refine⟨?_,hb⟩;have hp:0 < 2 ^ (7*i):=z6y _;rw [em,u64w (x:=((c.toNat % 128:Nat):Int)) (by omega) (by omega),z74 (by omega)];have:((c.toNat % 128:Nat):Int)*2 ^ (7*i)=((c.toNat % 128*2 ^ (7*i):Nat):Int):=by
  rw [z7h,Int.natCast_pow]; rfl
 rw [this,u64w (by omega) (by omega)]
def firV:UR→Value
 | .ok u n=>.tuple #[.int .u64 u,.int .i64 n,.int .i64 0]
 | .form=>.tuple #[.int .u64 0,.int .i64 0,.int .i64 10]
 | .ended=>.tuple #[.int .u64 0,.int .i64 0,.int .i64 15]
inductive RStep (bs:List Int)(k acc:Nat):Prop where
 | fin (h:bs.length≤k) (e:rdU acc k (bs.drop k)=.ended)
 | go (h:k < bs.length) (c:Int) (hc:bs[k]=c) (h0:0≤c) (h1:c < 256) (hf:¬((c=0∧0 < k)∨(1 < c∧k=9)))
   (e1:c < 128→rdU acc k (bs.drop k)=.ok (acc+c.toNat % 128*2 ^ (7*k)) (k+1))
   (e2:¬c < 128→rdU acc k (bs.drop k)=rdU (acc+c.toNat % 128*2 ^ (7*k)) (k+1) (bs.drop (k+1)))
 | bad (h:k < bs.length) (c:Int) (hc:bs[k]=c) (hf:(c=0∧0 < k)∨(1 < c∧k=9)) (e:rdU acc k (bs.drop k)=.form)
theorem rstep {bs:List Int}(hb:q04 bs)(k acc:Nat):RStep bs k acc:=by
 rcases z5r k bs.length with h|h
 ·have hd:bs.drop k=bs[k]::bs.drop (k+1):=z6h h;have hx:=hb _ (z5e h)
  by_cases hf:(bs[k]=0∧0 < k)∨(1 < bs[k]∧k=9)
  ·exact .bad h _ rfl hf (by rw [hd,rdU,if_pos hf])
  ·refine .go h _ rfl hx.1 hx.2 hf (fun h1=>?_) (fun h1=>?_)
   ·rw [hd,rdU,if_neg hf,if_pos h1]
   ·rw [hd,rdU,if_neg hf,if_neg h1]
 ·exact .fin h (by rw [List.drop_eq_nil_of_le h]; rfl)
end Go.Nm
namespace Go.Proofs.YtfmkddccnjidmaaGreatDoor
open Go.Nm
theorem qmg {H:Heap}{a:Option Addr}{c:Nat}{bs:List Int}(ha:rdS H a (bs.map U8))(hb:q04 bs)(hl:bs.length≤1099511627776) :
  q1o Tryz.prog 174 #[.slice a bs.length c] H (firV (rdU 0 0 bs)):=by
 unfold q1o;refine q68.call ?_;unfold q68.code;refine⟨fun u i H'=>H'=H∧∃k acc:Nat,i=k∧u=acc∧k≤9∧k≤bs.length∧acc < 2 ^ (7*k)∧rdU acc k (bs.drop k)=rdU 0 0 bs,fun _ i _=>bs.length - i.toNat,⟨rfl,0,0,rfl,rfl,by decide,z5s _,by decide,rfl⟩,?_⟩
 rintro u i H' ⟨rfl,k,acc,rfl,rfl,h9,hk,hacc,he⟩;unfold q68.l1;refine⟨fun hc=>?_,fun hc=>?_⟩
 ·have hlt:k < bs.length:=by simpa using hc
  have h1:=ha.at hlt;refine⟨⟨by omega,by omega⟩,_,_,h1.1,_,h1.2,?_⟩;have e7:i64.wrap (7*(k:Int))=((7*k:Nat):Int):=by rw [w64 (by omega) (by omega)]; omega
  have ek:i64.wrap ((k:Int)+1)=((k+1:Nat):Int):=w64 (by omega) (by omega)
  rcases rstep hb k acc with ⟨h,_⟩|⟨h,x,hx,h0,h1',hf,e1,e2⟩|⟨h,x,hx,hf,e⟩
  ·omega
  ·rw [hx];have hp:=part64 (c:=x) (i:=k) h0 h1' h9 (fun e9=>by
    rcases Int.lt_or_le 1 x with h2|h2
    ·exact absurd (Or.inr ⟨h2,e9⟩) hf
    ·exact h2)
   refine⟨fun hb1=>?_,fun _=>⟨by decide,by rw [e7]; omega,fun hb2=>?_,fun hb2=>?_⟩⟩
   ·exfalso;apply hf;simp only [z5h,z56,z52] at hb1;omega
   ·rw [e7,ek,z5a];show _=_∧_;have hp1:u64.wrap (u64.wrap (Int.tmod x 128)*2 ^ (min (7*k) u64.bits))=((x.toNat % 128*2 ^ (7*k):Nat):Int):=hp.1;rw [hp1,qw9 hacc (by omega),← he,e1 (by simpa using hb2)];exact⟨rfl,rfl⟩
   ·rw [e7,ek,z5a];have hp1:u64.wrap (u64.wrap (Int.tmod x 128)*2 ^ (min (7*k) u64.bits))=((x.toNat % 128*2 ^ (7*k):Nat):Int):=hp.1;have hge:¬x < 128:=by simpa using hb2
    rw [hp1,qw9 hacc (by omega)];have k9:k≠9:=fun e9=>hf (Or.inr ⟨by omega,e9⟩)
    refine⟨⟨rfl,k+1,_,rfl,rfl,by omega,by omega,?_,?_⟩,by dsimp only; omega⟩
    ·calc acc+x.toNat % 128*2 ^ (7*k) < 2 ^ (7*k)+x.toNat % 128*2 ^ (7*k):=by omega
      _=(x.toNat % 128+1)*2 ^ (7*k):=by rw [z5x,Nat.one_mul,Nat.add_comm]
      _≤128*2 ^ (7*k):=z6c _ (by omega)
      _=2 ^ (7*(k+1)):=by rw [show 7*(k+1)=7+7*k by omega,z6f]
    ·rw [← he,e2 hge]
  ·rw [hx];refine⟨fun _=>?_,fun hb1=>?_⟩
   ·rw [← he,e];exact⟨rfl,rfl⟩
   ·exfalso;simp only [z5g,z6k,z58] at hb1;omega
 ·have hk2:bs.length≤k:=by simp at hc; omega
  rcases rstep hb k acc with ⟨h,e⟩|⟨h,_⟩|⟨h,_⟩
  ·rw [← he,e];exact⟨rfl,rfl⟩
  ·omega
  ·omega
def cntV (most:Int):UR→Value
 | .ok u n=>if max most 0 < (u:Int) then .tuple #[.int .i64 0,.int .i64 0,.int .i64 17] else .tuple #[.int .i64 u,.int .i64 n,.int .i64 0]
 | .form=>.tuple #[.int .i64 0,.int .i64 0,.int .i64 10]
 | .ended=>.tuple #[.int .i64 0,.int .i64 0,.int .i64 15]
theorem qmh {H:Heap}{a:Option Addr}{c:Nat}{bs:List Int}{most:Int}(ha:rdS H a (bs.map U8))(hb:q04 bs)(hl:bs.length≤1099511627776)(hm:wf64 most) :
  q1o Tryz.prog 168 #[.slice a bs.length c,.int .i64 most] H (cntV most (rdU 0 0 bs)):=by
 unfold q1o;refine qco.call ?_;unfold qco.code;have h1:=qmg (c:=c) ha hb hl;have ew:u64.wrap (if 0 > most then 0 else most)=max most 0:=by
  unfold wf64 at hm
  split <;> rw [u64w (by omega) (by omega)] <;> omega
 rw [ew]
 cases hr:rdU 0 0 bs with
 | ok u n=>
  rw [hr] at h1;refine⟨_,_,_,h1,(fun hf=>by cases hf),fun _=>⟨fun hc=>?_,fun hc=>?_⟩⟩
  ·have hlt:max most 0 < (u:Int):=by simpa using hc
   unfold cntV;dsimp only;rw [if_pos hlt];exact⟨rfl,rfl⟩
  ·have hle:¬max most 0 < (u:Int):=by simpa using hc
   unfold cntV;unfold wf64 at hm;dsimp only;rw [if_neg hle,w64 (by omega) (by omega)];exact⟨rfl,rfl⟩
 | form=>
  rw [hr] at h1;exact⟨_,_,_,h1,fun _=>⟨rfl,rfl⟩,(fun hf=>by cases hf)⟩
 | ended=>
  rw [hr] at h1;exact⟨_,_,_,h1,fun _=>⟨rfl,rfl⟩,(fun hf=>by cases hf)⟩
end Go.Proofs.YtfmkddccnjidmaaGreatDoor
namespace Go.Nm
structure RS where
 e:Int
 bs:List Int
def cRes (most:Int)(s:RS):Int × RS:=if s.e≠0 then (0,s) else match rdU 0 0 s.bs with
 | .ok u n=>if max most 0 < (u:Int) then (0,⟨17,s.bs⟩) else (u,⟨0,s.bs.drop n⟩)
 | .form=>(0,⟨10,s.bs⟩)
 | .ended=>(0,⟨15,s.bs⟩)
def tRes (most:Int)(s:RS):List Int × RS:=if s.e≠0 then ([],s) else match rdU 0 0 s.bs with
 | .ok u n=>if max most 0 < (u:Int) then ([],⟨17,s.bs⟩) else if s.bs.length < n+u then ([],⟨15,s.bs⟩) else ((s.bs.drop n).take u,⟨0,s.bs.drop (n+u)⟩)
 | .form=>([],⟨10,s.bs⟩)
 | .ended=>([],⟨15,s.bs⟩)
theorem rdU_size {bs:List Int}{u n:Nat}(hb:q04 bs)(h:rdU 0 0 bs=.ok u n):0 < n∧n≤bs.length∧u < 18446744073709551616:=by
 obtain⟨w,h1,h2,h3,_,_,_,h7⟩:=qr0 hb h (by omega);refine⟨h2,by omega,?_⟩;simp only [Nat.mul_zero,Nat.pow_zero,z6w] at h1 h7;omega
def crdA (b:Nat)(s:RS):Assn:=exS fun p:Option Addr × Nat=>cellsA b [.slice p.1 s.bs.length p.2,.int .i64 s.e] 184*slA 5 1 p.1 s.bs.length p.2 (s.bs.map U8)
theorem q1y {H:Heap}{b:Nat}{s:RS}{L:List Assn}:SatL H (crdA b s::L)↔∃a c,SatL H (cellsA b [.slice a s.bs.length c,.int .i64 s.e] 184::slA 5 1 a s.bs.length c (s.bs.map U8)::L):=by
 unfold crdA;rw [q0r]
 constructor
 ·rintro⟨p,h⟩; exact⟨p.1,p.2,q2m.1 h⟩
 ·rintro⟨a,c,h⟩; exact⟨(a,c),q2m.2 h⟩
def strB (s:List Int):ByteArray:=strOfNums s
end Go.Nm
namespace Go.Proofs.YtfmkddccnjidmaaGreatDoor
open Go.Nm
section
variable {F L:List Assn} {H:Heap} {K:Value→Heap→Prop}
theorem qts {b n c size:Nat}{a:Option Addr}(h:SatL H (cellsA b [.slice a n c,.int .i64 0] 184::F))(hs:size≤n)(hc:n≤c)
  (k:∀H',SatL H' (cellsA b [.slice (slB a size c 1) (n - size) (c - size),.int .i64 0] 184::F)→K (.bool true) H') :
  CF 115 #[.pointer (some ⟨b,0,none⟩),.int .i64 size,.int .i64 0] H K:=by
 refine q18.call ?_;unfold q18.code;refine⟨_,h.rd 0 rfl _,(fun hf=>by cases hf),fun _=>⟨(fun hf=>by cases hf),fun _=>⟨_,_,_,h.rd 0 rfl _,⟨by omega,by omega,by omega⟩,?_⟩⟩⟩
 rw [z5a];exact h.st 0 rfl rfl fun H' h=>k _ h
theorem q6y {b n c:Nat}{size e:Int}{a:Option Addr}(h:SatL H (cellsA b [.slice a n c,.int .i64 0] 184::F))(he:e≠0)
  (k:∀H',SatL H' (cellsA b [.slice a n c,.int .i64 e] 184::F)→K (.bool false) H') :
  CF 115 #[.pointer (some ⟨b,0,none⟩),.int .i64 size,.int .i64 e] H K:=by
 refine q18.call ?_;unfold q18.code;refine⟨_,h.rd 0 rfl _,(fun hf=>by cases hf),fun _=>⟨fun _=>?_,fun hf=>by simp [he] at hf⟩⟩
 exact h.st 0 rfl rfl fun H' h=>k _ h
theorem qi8 {b n c:Nat}{size e e0:Int}{a:Option Addr}(h:SatL H (cellsA b [.slice a n c,.int .i64 e0] 184::F))(he:e0≠0)
  (k:K (.bool false) H):CF 115 #[.pointer (some ⟨b,0,none⟩),.int .i64 size,.int .i64 e] H K:=by
 refine q18.call ?_;unfold q18.code;exact⟨_,h.rd 0 rfl _,fun _=>k,fun hf=>by simp [he] at hf⟩
theorem Err_spec {b n c:Nat}{e:Int}{a:Option Addr}(h:SatL H (cellsA b [.slice a n c,.int .i64 e] 184::F)):q1o Tryz.prog 102 #[.pointer (some ⟨b,0,none⟩)] H (.int .i64 e):=by
 unfold q1o;refine q5l.call ?_;unfold q5l.code;exact⟨_,h.rd 0 rfl _,rfl,rfl⟩
theorem z1y {b n c:Nat}{e:Int}{a:Option Addr}(h:SatL H (cellsA b [.slice a n c,.int .i64 e] 184::F)):q1o Tryz.prog 111 #[.pointer (some ⟨b,0,none⟩)] H (.int .i64 n):=by
 unfold q1o;refine q4t.call ?_;unfold q4t.code;exact⟨_,_,_,h.rd 0 rfl _,rfl,rfl⟩
theorem qbp {b:Nat}{s:RS}(h:SatL H (crdA b s::F)):q1o Tryz.prog 102 #[.pointer (some ⟨b,0,none⟩)] H (.int .i64 s.e):=by
 obtain⟨a,c,h⟩:=q1y.1 h;exact Err_spec h
theorem qcu {b:Nat}{s:RS}(h:SatL H (crdA b s::F)):q1o Tryz.prog 111 #[.pointer (some ⟨b,0,none⟩)] H (.int .i64 s.bs.length):=by
 obtain⟨a,c,h⟩:=q1y.1 h;exact z1y h
theorem qjz {a:Option Addr}{c:Nat}{bs:List Int}(h:SatL H F)(ha:∀H,SatL H F→rdS H a (bs.map U8))(hl:bs.length≤1099511627776)
  (k:∀b H',SatL H' (crdA b ⟨0,bs⟩::F)→K (.pointer (some ⟨b,0,none⟩)) H'):CF 39 #[.slice a bs.length c] H K:=by
 refine qi7.call ?_;unfold qi7.code;refine qyl h ha hl fun a' c' H1 h=>⟨_,_,_,rfl,?_⟩
 refine h.al fun b H2 h=>k _ _ ?_
 exact q1y.2 ⟨_,_,h⟩
theorem qgl {b:Nat}{s:RS}{most:Int}(h:SatL H (crdA b s::F))(hb:q04 s.bs)(hl:s.bs.length≤1099511627776)(hm:wf64 most)
  (k:∀H',SatL H' (crdA b (cRes most s).2::F)→K (.int .i64 (cRes most s).1) H') :
  CF 103 #[.pointer (some ⟨b,0,none⟩),.int .i64 most] H K:=by
 obtain⟨e,bs⟩:=s;dsimp only at hb hl;obtain⟨a,c,h⟩:=q1y.1 h;dsimp only at h;have hr:=h.sl_rd 1 rfl;have hn:=h.sl_nc 1 rfl;refine q48.call ?_;unfold q48.code;have hq:=qmh (c:=c) hr hb hl hm;have fin:∀r1 e':Int,∀(r:Int),(cRes most ⟨e,bs⟩=(0,⟨e',bs⟩))→(∀K',(∀H',SatL H' (cellsA b [.slice a bs.length c,.int .i64 e'] 184::slA 5 1 a bs.length c (bs.map U8)::F)→K' (.bool false) H')→CF 115 #[.pointer (some ⟨b,0,none⟩),.int .i64 r1,.int .i64 r] H K')→
   CF 115 #[.pointer (some ⟨b,0,none⟩),.int .i64 r1,.int .i64 r] H fun u H_=>∃r3:Bool,u=(.bool r3)∧(((!r3))=true→K (.int .i64 0) H_)∧(((!r3))=false→K (.int .i64 (cRes most ⟨e,bs⟩).1) H_):=by
  intro r1 e' r he hk;rw [he] at k ⊢;exact hk _ fun H' h'=>⟨_,rfl,fun _=>k _ (q1y.2 ⟨_,_,h'⟩),fun hf=>by cases hf⟩
 by_cases he:e=0
 ·subst he
  cases hu:rdU 0 0 bs with
  | ok u n=>
   obtain⟨h1,h2,h3⟩:=rdU_size hb hu;rw [hu] at hq;unfold cntV at hq;dsimp only at hq
   by_cases hm1:max most 0 < (u:Int)
   ·rw [if_pos hm1] at hq;refine⟨_,_,_,h.rd 0 rfl _,_,_,_,hq,?_⟩;have hk:=fin 0 17 17 (by unfold cRes; simp [hu,hm1]) fun K' k'=>q6y h (by decide) k'
    have e0:(cRes most ⟨0,bs⟩).1=0:=by unfold cRes; simp [hu,hm1]
    rw [e0] at hk;exact hk
   ·rw [if_neg hm1] at hq;refine⟨_,_,_,h.rd 0 rfl _,_,_,_,hq,?_⟩;have ec:cRes most ⟨0,bs⟩=((u:Int),⟨0,bs.drop n⟩):=by unfold cRes; simp [hu,hm1]
    rw [ec] at k;refine qts h h2 hn fun H' h'=>⟨_,rfl,(fun hf=>by cases hf),fun _=>k _ ?_⟩
    have h4:=h'.sl_drop 1 rfl n h2;rw [z6w,← List.map_drop] at h4;refine q1y.2 ⟨slB a n c 1,c - n,?_⟩;dsimp only;rw [z5u];exact h4
  | form=>
   rw [hu] at hq;refine⟨_,_,_,h.rd 0 rfl _,_,_,_,hq,?_⟩;have hk:=fin 0 10 10 (by unfold cRes; simp [hu]) fun K' k'=>q6y h (by decide) k'
   have e0:(cRes most ⟨0,bs⟩).1=0:=by unfold cRes; simp [hu]
   rw [e0] at hk;exact hk
  | ended=>
   rw [hu] at hq;refine⟨_,_,_,h.rd 0 rfl _,_,_,_,hq,?_⟩;have hk:=fin 0 15 15 (by unfold cRes; simp [hu]) fun K' k'=>q6y h (by decide) k'
   have e0:(cRes most ⟨0,bs⟩).1=0:=by unfold cRes; simp [hu]
   rw [e0] at hk;exact hk
 ·have ec:cRes most ⟨e,bs⟩=(0,⟨e,bs⟩):=by unfold cRes; simp [he]
  rw [ec] at k;have hv:∃r r1 r2:Int,cntV most (rdU 0 0 bs)=.tuple #[.int .i64 r,.int .i64 r1,.int .i64 r2]:=by
   unfold cntV
   split
   ·split <;> exact⟨_,_,_,rfl⟩
   ·exact⟨_,_,_,rfl⟩
   ·exact⟨_,_,_,rfl⟩
  obtain⟨r,r1,r2,hv⟩:=hv;rw [hv] at hq;refine⟨_,_,_,h.rd 0 rfl _,_,_,_,hq,?_⟩;exact qi8 h he ⟨_,rfl,fun _=>k _ (q1y.2 ⟨_,_,h⟩),fun hf=>by cases hf⟩
theorem qf7 {H:Heap}{a:Option Addr}{c:Nat}{bs:List Int}(hA:a=none∨∃b o,a=some ⟨b,o,none⟩)(ha:rdS H a (bs.map U8)):q09 Tryz.prog (convert 24 9 (.slice a bs.length c)) H (.string (strB bs)):=by
 intro w hw;subst hw
 rcases hA with rfl|⟨b,o,rfl⟩
 ·have:=qcm ha;have hb:bs=[]:=by simpa using this
  subst hb;exact run_convert_bytes_nil w 24 5 (by kernel_rfl) (by kernel_rfl) _ _ 9 (by kernel_rfl)
 ·refine run_convert_bytes_arg w 24 5 (by kernel_rfl) (by kernel_rfl) b o _ c bs rfl (fun i hi=>?_) 9 (by kernel_rfl)
  have h1:=(ha.at hi).2;simp only [adrB,adrO] at h1;rw [show bs.getD i 0=bs[i] by simp [List.getD,List.getElem?_eq_getElem hi]];rw [cell?_cellAt];exact h1
theorem slB_is {e sz n c k:Nat}{a:Option Addr}{cs:List Value}(h:SatL H (slA e sz a n c cs::F)):slB a k c sz=none∨∃b o,slB a k c sz=some ⟨b,o,none⟩:=by
 have h2:a=none∨∃b o,a=some ⟨b,o,none⟩:=by
  rcases (q3r (F:=star F) h).2 with ⟨h2,_⟩|⟨b,pre,post,e',fr,h2,_⟩
  ·exact .inl h2
  ·exact .inr ⟨_,_,h2⟩
 unfold slB
 split
 ·exact h2
 ·rcases h2 with rfl|⟨b,o,rfl⟩
  ·exact .inl rfl
  ·right;rw [z62,q47];exact⟨_,_,rfl⟩
theorem q77 {b:Nat}{s:RS}{most:Int}(h:SatL H (crdA b s::F))(hb:q04 s.bs)(hl:s.bs.length≤1099511627776)(hm:wf64 most)
  (k:∀H',SatL H' (crdA b (tRes most s).2::F)→K (.string (strB (tRes most s).1)) H') :
  CF 110 #[.pointer (some ⟨b,0,none⟩),.int .i64 most] H K:=by
 obtain⟨e,bs⟩:=s;dsimp only at hb hl;obtain⟨a,c,h⟩:=q1y.1 h;dsimp only at h;have hr:=h.sl_rd 1 rfl;have hn:=h.sl_nc 1 rfl;refine q0v.call ?_;unfold q0v.code;have hq:=qmh (c:=c) hr hb hl hm;have fin:∀(r r1 err e':Int),tRes most ⟨e,bs⟩=([],⟨e',bs⟩)→(∀K':Value→Heap→Prop,(∀H',SatL H' (cellsA b [.slice a bs.length c,.int .i64 e'] 184::slA 5 1 a bs.length c (bs.map U8)::F)→K' (.bool false) H')→CF 115 #[.pointer (some ⟨b,0,none⟩),.int .i64 (i64.wrap (r1+r)),.int .i64 err] H K')→
   q0v.r1 b 0 K r r1 err H:=by
  intro r r1 err e' he hk;unfold q0v.r1;rw [he] at k;refine⟨_,_,_,h.rd 0 rfl _,?_⟩;exact hk _ fun H' h'=>⟨_,rfl,fun _=>k _ (q1y.2 ⟨_,_,h'⟩),fun hf=>by cases hf⟩
 by_cases he:e=0
 ·subst he
  cases hu:rdU 0 0 bs with
  | ok u n=>
   obtain⟨h1,h2,h3⟩:=rdU_size hb hu;rw [hu] at hq;unfold cntV at hq;dsimp only at hq
   by_cases hm1:max most 0 < (u:Int)
   ·rw [if_pos hm1] at hq;refine⟨_,_,_,h.rd 0 rfl _,_,_,_,hq,fun _=>trivial,_,_,_,fun _=>h.rd 0 rfl _,fun Jn hJ=>⟨fun hf=>by simp at hf,fun _=>hJ _ _ ?_⟩⟩
    exact fin _ _ _ 17 (by unfold tRes; simp [hu,hm1]) fun K' k'=>q6y h (by decide) k'
   ·rw [if_neg hm1] at hq;unfold wf64 at hm;have hu2:(u:Int)≤9223372036854775807:=by omega
    have e1:i64.wrap (((bs.length:Nat):Int) - (n:Int))=((bs.length - n:Nat):Int):=by rw [w64 (by omega) (by omega)]; omega
    refine⟨_,_,_,h.rd 0 rfl _,_,_,_,hq,fun _=>trivial,_,_,_,fun _=>h.rd 0 rfl _,fun Jn hJ=>⟨fun hc=>hJ _ _ ?_,fun hc=>hJ _ _ ?_⟩⟩
    ·rw [e1] at hc;have hlt:bs.length < n+u:=by simp at hc; omega
     exact fin _ _ _ 15 (by unfold tRes; simp [hu,hm1,hlt]) fun K' k'=>q6y h (by decide) k'
    ·rw [e1] at hc;have hge:¬bs.length < n+u:=by simp at hc; omega
     have et:tRes most ⟨0,bs⟩=((bs.drop n).take u,⟨0,bs.drop (n+u)⟩):=by unfold tRes; simp [hu,hm1,hge]
     rw [et] at k;unfold q0v.r1;have e2:i64.wrap ((n:Int)+(u:Int))=((n+u:Nat):Int):=by rw [w64 (by omega) (by omega)]; omega
     refine⟨_,_,_,h.rd 0 rfl _,?_⟩;rw [e2];refine qts h (by omega) hn fun H' h'=>⟨_,rfl,(fun hf=>by cases hf),fun _=>⟨⟨by omega,by omega,by omega⟩,strB ((bs.drop n).take u),?_,k _ ?_⟩⟩
     ·rw [z5a,z5a,z7m];have h5:=h'.tl.sl_rd 0 rfl;have h6:=(h5.subB (k:=n) (c:=c) (by simpa using hn)).take u;rw [← List.map_drop,← List.map_take] at h6;have h7:=qf7 (c:=c - n) (slB_is h'.tl) h6;rw [z5n,z5u,z74 (by omega)] at h7;exact h7
     ·have h4:=h'.sl_drop 1 rfl (n+u) (by omega);rw [z6w,← List.map_drop] at h4;refine q1y.2 ⟨slB a (n+u) c 1,c - (n+u),?_⟩;dsimp only;rw [z5u];exact h4
  | form=>
   rw [hu] at hq;refine⟨_,_,_,h.rd 0 rfl _,_,_,_,hq,fun _=>trivial,_,_,_,fun _=>h.rd 0 rfl _,fun Jn hJ=>⟨fun hf=>by simp at hf,fun _=>hJ _ _ ?_⟩⟩
   exact fin _ _ _ 10 (by unfold tRes; simp [hu]) fun K' k'=>q6y h (by decide) k'
  | ended=>
   rw [hu] at hq;refine⟨_,_,_,h.rd 0 rfl _,_,_,_,hq,fun _=>trivial,_,_,_,fun _=>h.rd 0 rfl _,fun Jn hJ=>⟨fun hf=>by simp at hf,fun _=>hJ _ _ ?_⟩⟩
   exact fin _ _ _ 15 (by unfold tRes; simp [hu]) fun K' k'=>q6y h (by decide) k'
 ·have hv:∃r r1 r2:Int,cntV most (rdU 0 0 bs)=.tuple #[.int .i64 r,.int .i64 r1,.int .i64 r2]:=by
   unfold cntV
   split
   ·split <;> exact⟨_,_,_,rfl⟩
   ·exact⟨_,_,_,rfl⟩
   ·exact⟨_,_,_,rfl⟩
  obtain⟨r,r1,r2,hv⟩:=hv;rw [hv] at hq;have fin2:∀err,q0v.r1 b 0 K r r1 err H:=fun err=>fin r r1 err e (by unfold tRes; simp [he]) fun K' k'=>qi8 h he (k' _ h)
  exact⟨_,_,_,h.rd 0 rfl _,_,_,_,hq,fun _=>trivial,_,_,_,fun _=>h.rd 0 rfl _,fun Jn hJ=>⟨fun hc=>hJ _ _ (fin2 _),fun _=>hJ _ _ (fin2 _)⟩⟩
end
end Go.Proofs.YtfmkddccnjidmaaGreatDoor
namespace Go.Nm
theorem qi9 {xs:List Int}(h:q04 xs)(i:Nat)(hi:i < xs.length):((UInt8.ofNat (xs[i]).toNat).toNat:Int)=xs[i]:=by
 have:=h _ (z5e hi);rw [UInt8.toNat_ofNat'];omega
end Go.Nm
namespace Go.Proofs.YtfmkddccnjidmaaGreatDoor
open Go.Nm
section
variable {F L:List Assn} {H:Heap} {K:Value→Heap→Prop}
theorem qhf {t:List Int}(hb:q04 t)(h:SatL H L)(k:∀a c H',SatL H' (slA 5 1 a t.length c (t.map U8)::L)→K (.slice a t.length c) H') :
  RunW Tryz.prog (convert 9 24 (.string (strB t))) H K:=by
 intro w hw;subst hw;have hs:(strB t).size=t.length:=strOfNums_size t;have hr:=run_bytes_of_string w 9 24 5 (strB t) (P:=Tryz.prog) (by kernel_rfl) (by kernel_rfl) (by kernel_rfl);rw [hs] at hr;have hcap:=grownCap_ge w t.length 0 5;obtain⟨cap,hcp⟩:∃cap,grownCap w t.length 0 5=cap:=⟨_,rfl⟩;rw [hcp] at hr hcap;have hrow:(bytesRow (strB t) cap).toList=t.map U8++List.replicate (cap - t.length) (U8 0):=by
  have e1:(bytesRow (strB t) cap).toList=(strB t).data.toList.map (fun b=>U8 (b.toNat:Int))++List.replicate (cap - (strB t).size) (U8 0):=by
   unfold bytesRow;simp only [Array.toList_append,Array.toList_map,Array.toList_replicate]
  have e2:(strB t).data.toList.map (fun b=>U8 (b.toNat:Int))=t.map U8:=by
   have:(strB t).data.toList=t.map fun n=>UInt8.ofNat n.toNat:=strOfNums_data t
   rw [this,z68];refine z6n (by simp) fun i h1 h2=>?_
   simp only [z6o,Function.comp_apply];rw [qi9 hb i (by simpa using h2)]
  rw [e1,e2,hs]
 have hrow2:bytesRow (strB t) cap=(t.map U8++List.replicate (cap - t.length) (U8 0)).toArray:=by
  have:=congrArg List.toArray hrow
  rwa [Array.toArray_toList] at this
 refine⟨_,_,hr,⟨rfl,rfl,rfl⟩,k _ _ _ ?_⟩;rw [hrow2];have hp:SatL _ _:=h.push (.cells (t.map U8++List.replicate (cap - t.length) (U8 0)).toArray 5 ((t.map U8++List.replicate (cap - t.length) (U8 0)).toArray.size,(t.map U8++List.replicate (cap - t.length) (U8 0)).toArray.size+1));generalize hC:t.map U8++List.replicate (cap - t.length) (U8 0)=C at hp;have hCl:C.length=cap:=by rw [← hC]; simp; omega
 refine SatL.mono hp fun p hp=>⟨by simp,.inr ⟨_,[],List.replicate (cap - t.length) (U8 0),5,(C.toArray.size,C.toArray.size+1),rfl,hcap,by simp,fun _ i h1 h2 hh=>?_,?_⟩⟩
 ·have h3:=hh.1;simp only [List.size_toArray,hCl] at h3;simp only [z5t] at h2;omega
 ·rw [z6l,hC];exact hp
end
open Go.Nm
def q3d.code (b:Int)(H:Heap)(K:KT):Prop:=
 ∃a,CQ 152 #[.int .u64 b] H (I64 a)∧
 K (I64 (i64.wrap (64 - a))) H
theorem q3d.call {a H K:_}(hK:q3d.code a H K):CF 279 ⟨[.int .u64 a]⟩ H K:=
 cE Tryz.func279 (.r (.r .no)) hK
def qa6.code (a:Int)(b:Bool)(H:Heap)(K:KT):Prop:=
 IF b (
 IF (decide (9223372036854775808 < a)) (
 K (.tuple #[I64 0,I64 12]) H) (
 K (.tuple #[I64 (i64.wrap (u64.wrap (0 - a))),I64 0]) H)) (
 IF (decide (9223372036854775807 < a)) (
 K (.tuple #[I64 0,I64 12]) H) (
 K (.tuple #[I64 (i64.wrap a),I64 0]) H))
theorem qa6.call {a b H K:_}(hK:qa6.code a b H K):CF 258 ⟨[.int .u64 a,.bool b]⟩ H K:=
 cE Tryz.func258 (.r (.seq (.r (.cond (.seq (.r (.cond (.r .no) .no)) (.r .no)) .no)) (.seq (.r (.cond (.r .no) .no)) (.r .no)))) hK
def q0e.r1 (f b c:Int)(K:KT)(a d e:Int)(g:Heap):Prop:=
 ((0:Int)≤(u64.wrap a))∧
 K (.tuple #[.int .u64 (u64.wrap ((u64.wrap (d*4294967296))+e)),.int .u64 (Int.fdiv (u64.wrap ((u64.wrap ((u64.wrap ((u64.wrap ((u64.wrap ((u64.wrap ((q0d .or .u64 (u64.wrap (f*2 ^ (min (Int.toNat (u64.wrap a)) (u64.bits)))) (Int.fdiv b (2 ^ (min (Int.toNat (u64.wrap (64 - (u64.wrap a)))) (u64.bits)))))*4294967296))+(Int.fdiv (u64.wrap (b*2 ^ (min (Int.toNat (u64.wrap a)) (u64.bits)))) (2 ^ (min (Int.toNat 32) (u64.bits)))))) - (u64.wrap (d*(u64.wrap (c*2 ^ (min (Int.toNat (u64.wrap a)) (u64.bits))))))))*4294967296))+(q0d .and .u64 (u64.wrap (b*2 ^ (min (Int.toNat (u64.wrap a)) (u64.bits)))) 4294967295))) - (u64.wrap (e*(u64.wrap (c*2 ^ (min (Int.toNat (u64.wrap a)) (u64.bits)))))))) (2 ^ (min (Int.toNat (u64.wrap a)) (u64.bits))))]) g
def q0e.l2 (i e b:Int)(f:Int→Heap→Prop)(j:Int→Int→Heap→Prop)(g:Int→Int→Heap→Nat)(c a:Int)(d:Heap):Prop:=
 IF ((decide (4294967296≤a)) || (decide ((u64.wrap ((u64.wrap (4294967296*c))+(q0d .and .u64 (u64.wrap (i*2 ^ (min (Int.toNat (u64.wrap b)) (u64.bits)))) 4294967295))) < (u64.wrap (a*(q0d .and .u64 (u64.wrap (e*2 ^ (min (Int.toNat (u64.wrap b)) (u64.bits)))) 4294967295)))))) (
 IF (decide (4294967296≤(u64.wrap (c+(Int.fdiv (u64.wrap (e*2 ^ (min (Int.toNat (u64.wrap b)) (u64.bits)))) (2 ^ (min (Int.toNat 32) (u64.bits)))))))) (
 f (u64.wrap (a - 1)) d) (
 j (u64.wrap (c+(Int.fdiv (u64.wrap (e*2 ^ (min (Int.toNat (u64.wrap b)) (u64.bits)))) (2 ^ (min (Int.toNat 32) (u64.bits)))))) (u64.wrap (a - 1)) d∧g (u64.wrap (c+(Int.fdiv (u64.wrap (e*2 ^ (min (Int.toNat (u64.wrap b)) (u64.bits)))) (2 ^ (min (Int.toNat 32) (u64.bits)))))) (u64.wrap (a - 1)) d < g c a d)) (
 f a d)
def q0e.r3 (d c b:Int)(K:KT)(a e:Int)(n:Heap):Prop:=
 ((Int.fdiv (u64.wrap (b*2 ^ (min (Int.toNat (u64.wrap a)) (u64.bits)))) (2 ^ (min (Int.toNat 32) (u64.bits))))≠0)∧
 ∀l:Int→Heap→Prop,(∀j k,q0e.r1 d c b K a e j k→l j k)→
 ∃(f:Int→Int→Heap→Prop) (o:Int→Int→Heap→Nat),f (u64.wrap ((u64.wrap ((u64.wrap ((u64.wrap ((q0d .or .u64 (u64.wrap (d*2 ^ (min (Int.toNat (u64.wrap a)) (u64.bits)))) (Int.fdiv c (2 ^ (min (Int.toNat (u64.wrap (64 - (u64.wrap a)))) (u64.bits)))))*4294967296))+(Int.fdiv (u64.wrap (c*2 ^ (min (Int.toNat (u64.wrap a)) (u64.bits)))) (2 ^ (min (Int.toNat 32) (u64.bits)))))) - (u64.wrap (e*(u64.wrap (b*2 ^ (min (Int.toNat (u64.wrap a)) (u64.bits)))))))) - (u64.wrap ((u64.wrap (Int.tdiv (u64.wrap ((u64.wrap ((u64.wrap ((q0d .or .u64 (u64.wrap (d*2 ^ (min (Int.toNat (u64.wrap a)) (u64.bits)))) (Int.fdiv c (2 ^ (min (Int.toNat (u64.wrap (64 - (u64.wrap a)))) (u64.bits)))))*4294967296))+(Int.fdiv (u64.wrap (c*2 ^ (min (Int.toNat (u64.wrap a)) (u64.bits)))) (2 ^ (min (Int.toNat 32) (u64.bits)))))) - (u64.wrap (e*(u64.wrap (b*2 ^ (min (Int.toNat (u64.wrap a)) (u64.bits)))))))) (Int.fdiv (u64.wrap (b*2 ^ (min (Int.toNat (u64.wrap a)) (u64.bits)))) (2 ^ (min (Int.toNat 32) (u64.bits))))))*(Int.fdiv (u64.wrap (b*2 ^ (min (Int.toNat (u64.wrap a)) (u64.bits)))) (2 ^ (min (Int.toNat 32) (u64.bits)))))))) (u64.wrap (Int.tdiv (u64.wrap ((u64.wrap ((u64.wrap ((q0d .or .u64 (u64.wrap (d*2 ^ (min (Int.toNat (u64.wrap a)) (u64.bits)))) (Int.fdiv c (2 ^ (min (Int.toNat (u64.wrap (64 - (u64.wrap a)))) (u64.bits)))))*4294967296))+(Int.fdiv (u64.wrap (c*2 ^ (min (Int.toNat (u64.wrap a)) (u64.bits)))) (2 ^ (min (Int.toNat 32) (u64.bits)))))) - (u64.wrap (e*(u64.wrap (b*2 ^ (min (Int.toNat (u64.wrap a)) (u64.bits)))))))) (Int.fdiv (u64.wrap (b*2 ^ (min (Int.toNat (u64.wrap a)) (u64.bits)))) (2 ^ (min (Int.toNat 32) (u64.bits)))))) n∧
 ∀(g:Int) (i:Int),∀m:Heap,f g i m→q0e.l2 c b a l f o g i m
def q0e.l4 (i e b:Int)(f:Int→Heap→Prop)(j:Int→Int→Heap→Prop)(g:Int→Int→Heap→Nat)(a c:Int)(d:Heap):Prop:=
 IF ((decide (4294967296≤a)) || (decide ((u64.wrap ((u64.wrap (4294967296*c))+(Int.fdiv (u64.wrap (i*2 ^ (min (Int.toNat (u64.wrap b)) (u64.bits)))) (2 ^ (min (Int.toNat 32) (u64.bits)))))) < (u64.wrap (a*(q0d .and .u64 (u64.wrap (e*2 ^ (min (Int.toNat (u64.wrap b)) (u64.bits)))) 4294967295)))))) (
 IF (decide (4294967296≤(u64.wrap (c+(Int.fdiv (u64.wrap (e*2 ^ (min (Int.toNat (u64.wrap b)) (u64.bits)))) (2 ^ (min (Int.toNat 32) (u64.bits)))))))) (
 f (u64.wrap (a - 1)) d) (
 j (u64.wrap (a - 1)) (u64.wrap (c+(Int.fdiv (u64.wrap (e*2 ^ (min (Int.toNat (u64.wrap b)) (u64.bits)))) (2 ^ (min (Int.toNat 32) (u64.bits)))))) d∧g (u64.wrap (a - 1)) (u64.wrap (c+(Int.fdiv (u64.wrap (e*2 ^ (min (Int.toNat (u64.wrap b)) (u64.bits)))) (2 ^ (min (Int.toNat 32) (u64.bits)))))) d < g a c d)) (
 f a d)
def q0e.r5 (d c b:Int)(K:KT)(e:Heap):Prop:=
 IF (decide (d=0)) (
 (b≠0)∧
 (b≠0)∧
 K (.tuple #[.int .u64 (u64.wrap (Int.tdiv c b)),.int .u64 (Int.tmod c b)]) e) (
 ∃a,CQ 279 #[.int .u64 b] e (I64 a)∧
 ((0:Int)≤(u64.wrap a))∧
 ((0:Int)≤32)∧
 ((0:Int)≤(u64.wrap a))∧
 ((0:Int)≤(u64.wrap (64 - (u64.wrap a))))∧
 ((0:Int)≤(u64.wrap a))∧
 ((0:Int)≤32)∧
 ((Int.fdiv (u64.wrap (b*2 ^ (min (Int.toNat (u64.wrap a)) (u64.bits)))) (2 ^ (min (Int.toNat 32) (u64.bits))))≠0)∧
 ∀l:Int→Heap→Prop,(∀j k,q0e.r3 d c b K a j k→l j k)→
 ∃(f:Int→Int→Heap→Prop) (n:Int→Int→Heap→Nat),f (u64.wrap (Int.tdiv (q0d .or .u64 (u64.wrap (d*2 ^ (min (Int.toNat (u64.wrap a)) (u64.bits)))) (Int.fdiv c (2 ^ (min (Int.toNat (u64.wrap (64 - (u64.wrap a)))) (u64.bits))))) (Int.fdiv (u64.wrap (b*2 ^ (min (Int.toNat (u64.wrap a)) (u64.bits)))) (2 ^ (min (Int.toNat 32) (u64.bits)))))) (u64.wrap ((q0d .or .u64 (u64.wrap (d*2 ^ (min (Int.toNat (u64.wrap a)) (u64.bits)))) (Int.fdiv c (2 ^ (min (Int.toNat (u64.wrap (64 - (u64.wrap a)))) (u64.bits))))) - (u64.wrap ((u64.wrap (Int.tdiv (q0d .or .u64 (u64.wrap (d*2 ^ (min (Int.toNat (u64.wrap a)) (u64.bits)))) (Int.fdiv c (2 ^ (min (Int.toNat (u64.wrap (64 - (u64.wrap a)))) (u64.bits))))) (Int.fdiv (u64.wrap (b*2 ^ (min (Int.toNat (u64.wrap a)) (u64.bits)))) (2 ^ (min (Int.toNat 32) (u64.bits))))))*(Int.fdiv (u64.wrap (b*2 ^ (min (Int.toNat (u64.wrap a)) (u64.bits)))) (2 ^ (min (Int.toNat 32) (u64.bits)))))))) e∧
 ∀(g:Int) (i:Int),∀m:Heap,f g i m→q0e.l4 c b a l f n g i m)
def q0e.r6 (b g c:Int)(K:KT)(a:Heap):Prop:=
 ∀f:Heap→Prop,(∀d,q0e.r5 b g c K d→f d)→
 IF (decide (c≤b)) (
 ∃e,q00 a 2 0=some e∧
 panP e (fun i j=>False) a) (
 f a)
def q0e.code (e f a:Int)(H:Heap)(K:KT):Prop:=
 ∀d:Heap→Prop,(∀b,q0e.r6 e f a K b→d b)→
 IF (decide (a=0)) (
 ∃c,q00 H 1 0=some c∧
 panP c (fun g i=>False) H) (
 d H)
theorem q0e.call {a b c H K:_}(hK:q0e.code a b c H K):CF 257 ⟨[.int .u64 a,.int .u64 b,.int .u64 c]⟩ H K:=
 cE Tryz.func257 (.r (.seq (.r (.condJ [] .reg .no)) (.seq (.r (.condJ [] .reg .no)) (.seq (.r (.cond (.r .no) .no)) (.r (.r (.r (.r (.r (.r (.r (.r (.r (.r (.seq (.blkJ [(15,.one (.int .u64))] (.loop [(15,.one (.int .u64)),(16,.one (.int .u64))] (.seq (.r (.cond .no .no)) (.blk (.r (.r (.r (.cond .no .no)))))))) (.r (.r (.r (.seq (.blkJ [(18,.one (.int .u64))] (.loop [(16,.one (.int .u64)),(18,.one (.int .u64))] (.seq (.r (.cond .no .no)) (.blk (.r (.r (.r (.cond .no .no)))))))) (.r .no)))))))))))))))))))) hK
def qf8.code (a:Int)(H:Heap)(K:KT):Prop:=
 IF (decide (a < 0)) (
 K (.int .u64 (u64.wrap (0 - (u64.wrap a)))) H) (
 K (.int .u64 (u64.wrap a)) H)
theorem qf8.call {a H K:_}(hK:qf8.code a H K):CF 256 ⟨[I64 a]⟩ H K:=
 cE Tryz.func256 (.r (.seq (.r (.cond (.r .no) .no)) (.r .no))) hK
def qcv.code (a b:Int)(H:Heap)(K:KT):Prop:=
 ((0:Int)≤32)∧
 ((0:Int)≤32)∧
 ((0:Int)≤32)∧
 ((0:Int)≤32)∧
 ((0:Int)≤32)∧
 K (.tuple #[.int .u64 (u64.wrap ((u64.wrap ((u64.wrap ((Int.fdiv a (2 ^ (min (Int.toNat 32) (u64.bits))))*(Int.fdiv b (2 ^ (min (Int.toNat 32) (u64.bits))))))+(Int.fdiv (u64.wrap ((u64.wrap ((Int.fdiv a (2 ^ (min (Int.toNat 32) (u64.bits))))*(q0d .and .u64 b 4294967295)))+(Int.fdiv (u64.wrap ((q0d .and .u64 a 4294967295)*(q0d .and .u64 b 4294967295))) (2 ^ (min (Int.toNat 32) (u64.bits)))))) (2 ^ (min (Int.toNat 32) (u64.bits))))))+(Int.fdiv (u64.wrap ((q0d .and .u64 (u64.wrap ((u64.wrap ((Int.fdiv a (2 ^ (min (Int.toNat 32) (u64.bits))))*(q0d .and .u64 b 4294967295)))+(Int.fdiv (u64.wrap ((q0d .and .u64 a 4294967295)*(q0d .and .u64 b 4294967295))) (2 ^ (min (Int.toNat 32) (u64.bits)))))) 4294967295)+(u64.wrap ((q0d .and .u64 a 4294967295)*(Int.fdiv b (2 ^ (min (Int.toNat 32) (u64.bits)))))))) (2 ^ (min (Int.toNat 32) (u64.bits)))))),.int .u64 (u64.wrap (a*b))]) H
theorem qcv.call {a b H K:_}(hK:qcv.code a b H K):CF 255 ⟨[.int .u64 a,.int .u64 b]⟩ H K:=
 cE Tryz.func255 (.r (.r (.r (.r (.r (.r (.r (.r (.r (.r (.r (.r .no)))))))))))) hK
def qol.code (k l:Int)(H:Heap)(K:KT):Prop:=
 AL H [I64 k,I64 l] 53 fun b j=>
 ∃c0 c,q01 j b 0 [I64 c0,I64 c]∧
 CF 142 #[.agg #[I64 c0,I64 c]] j fun m a=>∃d,m=(.bool d)∧
 IF (!d) (
 K (I64 0) a) (
 ∃e,q00 a b 0=some (I64 e)∧
 ∃f,q00 a b 1=some (I64 f)∧
 ∃g,q00 a b 0=some (I64 g)∧
 ∃i,q00 a b 1=some (I64 i)∧
 ((0:Int)≤1)∧
 K (I64 (i64.wrap ((q0d .and .i64 e f)+(Int.fdiv (q0d .xor .i64 g i) (2 ^ (min (Int.toNat 1) (i64.bits))))))) a)
theorem qol.call {a b H K:_}(hK:qol.code a b H K):CF 224 ⟨[.agg #[I64 a,I64 b]]⟩ H K:=
 cE Tryz.func224 (.r (.seq (.r (.cond (.r .no) .no)) (.r .no))) hK
def qf9.code (i j:Int)(H:Heap)(K:KT):Prop:=
 AL H [I64 i,I64 j] 53 fun b g=>
 ∃c0 c,q01 g b 0 [I64 c0,I64 c]∧
 CF 142 #[.agg #[I64 c0,I64 c]] g fun k a=>∃d,k=(.bool d)∧
 IF (!d) (
 K (.int .u64 0) a) (
 ∃e,q00 a b 1=some (I64 e)∧
 ∃f,q00 a b 0=some (I64 f)∧
 K (.int .u64 (u64.wrap ((u64.wrap e) - (u64.wrap f)))) a)
theorem qf9.call {a b H K:_}(hK:qf9.code a b H K):CF 223 ⟨[.agg #[I64 a,I64 b]]⟩ H K:=
 cE Tryz.func223 (.r (.seq (.r (.cond (.r .no) .no)) (.r .no))) hK
def q58.r1 (b c:Int)(K:KT)(d:Int)(a:Heap):Prop:=
 ∃r6 r7,CQ 258 #[.int .u64 d,.bool (!((decide (b < 0)) == (decide (c < 0))))] a (.tuple #[I64 r6,I64 r7])∧
 K (.tuple #[I64 r6,I64 r7]) a
def q58.code (a b c:Int)(j:Bool)(H:Heap)(K:KT):Prop:=
 IF (decide (c < 1)) (
 K (.tuple #[I64 0,I64 11]) H) (
 ∃f,CQ 256 #[I64 a] H (.int .u64 f)∧
 ∃r1,CQ 256 #[I64 b] H (.int .u64 r1)∧
 ∃r2 r3,CQ 255 #[.int .u64 f,.int .u64 r1] H (.tuple #[.int .u64 r2,.int .u64 r3])∧
 IF (decide ((u64.wrap c)≤r2)) (
 K (.tuple #[I64 0,I64 12]) H) (
 CF 257 #[.int .u64 r2,.int .u64 r3,.int .u64 (u64.wrap c)] H fun k e=>∃r4 r5,k=(.tuple #[.int .u64 r4,.int .u64 r5])∧
 IF (decide (9223372036854775808 < r4)) (
 K (.tuple #[I64 0,I64 12]) e) (
 ∀d:Int→Heap→Prop,(∀g i,q58.r1 a b K g i→d g i)→
 IF ((!decide (r5=0)) && (!((!((decide (a < 0)) == (decide (b < 0)))) == j))) (
 d (u64.wrap (r4+1)) e) (
 d r4 e))))
theorem q58.call {d e f g H K:_}(hK:q58.code d e f g H K):CF 219 ⟨[I64 d,I64 e,I64 f,.bool g]⟩ H K:=
 cE Tryz.func219 (.r (.seq (.r (.cond (.r .no) .no)) (.r (.r (.seq (.r (.cond (.r .no) .no)) (.r (.seq (.r (.cond (.r .no) .no)) (.seq (.r (.condJ [(13,.one (.int .u64))] .reg .no)) (.r .no))))))))) hK
def qgm.code (a:Int)(H:Heap)(K:KT):Prop:=
 K (.bool ((decide (0≤a)) && (decide (a≤100000)))) H
theorem qgm.call {a H K:_}(hK:qgm.code a H K):CF 218 ⟨[I64 a]⟩ H K:=
 cE Tryz.func218 (.r (.r .no)) hK
def qcw.code (m n o p:Int)(H:Heap)(K:KT):Prop:=
 AL H [I64 m,I64 n] 53 fun i q=>
 AL q [I64 o,I64 p] 53 fun j r=>
 AL r [I64 0,I64 0] 53 fun k a=>
 ∃b,q00 a i 0=some (I64 b)∧
 ∃c,q00 a j 0=some (I64 c)∧
 ∃d,q00 a i 1=some (I64 d)∧
 ∃e,q00 a j 1=some (I64 e)∧
 ST a k 0 [I64 (if c > b then c else b),I64 (if e < d then e else d)] fun l=>
 ∃f g,q01 l k 0 [I64 f,I64 g]∧
 K (.agg #[I64 f,I64 g]) l
theorem qcw.call {a b c d H K:_}(hK:qcw.code a b c d H K):CF 201 ⟨[.agg #[I64 a,I64 b],.agg #[I64 c,I64 d]]⟩ H K:=
 cE Tryz.func201 (.r (.r .no)) hK
def qa7.l1 (al:Option Addr)(i:Nat)(j:FuncId)(am:List Value)(K:KT)(d b:Nat)(an:Int→Heap→Prop)(k:Int→Heap→Nat)(a:Int)(c:Heap):Prop:=
 IF (decide (a < (i:Int))) (
 ((0:Int)≤a∧a < (i:Int))∧∃ae af:Nat,(al=some ⟨ae,af,none⟩)∧
 ∃c0 l,q01 c ae (af+a.toNat*2) [I64 c0,I64 l]∧
 AL c [I64 0,I64 0] 53 fun f ao=>
 ST ao f 0 [I64 c0,I64 l] fun ag=>
 ∃m n,q01 ag f 0 [I64 m,I64 n]∧
 CF 142 #[.agg #[I64 m,I64 n]] ag fun ap e=>∃o,ap=(.bool o)∧
 IF (!o) (
 ST e b 0 [I64 0,I64 0] fun ah=>
 ∃p q,q01 ah b 0 [I64 p,I64 q]∧
 K (.tuple #[.agg #[I64 p,I64 q],I64 10]) ah) (
 ∃r s,q01 e d 0 [I64 r,I64 s]∧
 ∃t u,q01 e f 0 [I64 t,I64 u]∧
 memN j X.calls=true∧
 CF j ⟨[.agg #[I64 r,I64 s],.agg #[I64 t,I64 u]]++am⟩ e fun aq ar=>∃v r1,aq=(.agg #[I64 v,I64 r1])∧
 ST ar d 0 [I64 v,I64 r1] fun ai=>
 an (i64.wrap (a+1)) ai∧k (i64.wrap (a+1)) ai < k a c)) (
 ∃w x,q01 c d 0 [I64 w,I64 x]∧
 CF 142 #[.agg #[I64 w,I64 x]] c fun au g=>∃r2,au=(.bool r2)∧
 IF (!r2) (
 ST g b 0 [I64 0,I64 0] fun aj=>
 ∃y z,q01 aj b 0 [I64 y,I64 z]∧
 K (.tuple #[.agg #[I64 y,I64 z],I64 13]) aj) (
 ∃aa ab,q01 g d 0 [I64 aa,I64 ab]∧
 ST g b 0 [I64 aa,I64 ab] fun ak=>
 ∃ac ad,q01 ak b 0 [I64 ac,I64 ad]∧
 K (.tuple #[.agg #[I64 ac,I64 ad],I64 0]) ak))
def qa7.code (d e:Int)(f:Option Addr)(g p:Nat)(i:FuncId)(j:List Value)(H:Heap)(K:KT):Prop:=
 AL H [I64 d,I64 e] 53 fun l m=>
 AL m [I64 0,I64 0] 53 fun n o=>
 ∃(a:Int→Heap→Prop) (k:Int→Heap→Nat),a 0 o∧
 ∀b c,a b c→qa7.l1 f g i j K l n a k b c
theorem qa7.call {a b c d e f g H K:_}(hK:qa7.code a b c d e f g H K):CF 200 ⟨[.agg #[I64 a,I64 b],.slice c d e,.func (.func f) #[] ⟨g⟩]⟩ H K:=
 cE Tryz.func200 (.r (.seq (.r (.blk (.loop [(12,.one (.int .i64))] (.r (.seq (.cond .no .no) (.seq (.blk (.r (.seq (.r (.cond (.r .no) .no)) .reg))) .reg)))))) (.seq (.r (.cond (.r .no) .no)) (.r .no)))) hK
def qfa.code (v w x y z:Int)(H:Heap)(K:KT):Prop:=
 AL H [I64 v,I64 w,I64 x] 70 fun b aa=>
 AL aa [I64 y,I64 z] 53 fun k l=>
 ∃c0 m n,q01 l b 0 [I64 c0,I64 m,I64 n]∧
 ∃o p,q01 l k 0 [I64 o,I64 p]∧
 CF 191 #[.agg #[I64 c0,I64 m,I64 n],.agg #[I64 o,I64 p]] l fun ab e=>∃c r1 r2,ab=(.tuple #[I64 c,I64 r1,I64 r2])∧
 IF (!decide (r2=0)) (
 K (.tuple #[I64 0,I64 r2]) e) (
 ∃q r,q01 e k 0 [I64 q,I64 r]∧
 ∃f,q00 e b 2=some (I64 f)∧
 CF 223 #[.agg #[I64 q,I64 r]] e fun ac a=>∃r3,ac=(.int .u64 r3)∧
 q00 a b 2=some (I64 f)∧
 IF (decide ((u64.wrap f) < r3)) (
 K (.tuple #[I64 0,I64 17]) a) (
 ∃d,q00 a b 1=some (I64 d)∧
 IF (decide (d=0)) (
 K (.tuple #[I64 c,I64 0]) a) (
 IF (decide (d=1)) (
 K (.tuple #[I64 r1,I64 0]) a) (
 IF (decide (d=2)) (
 ∃g i j,q01 a b 0 [I64 g,I64 i,I64 j]∧
 ∃s t,q01 a k 0 [I64 s,I64 t]∧
 CF 224 #[.agg #[I64 s,I64 t]] a fun ad u=>∃r4,ad=(I64 r4)∧
 q01 u b 0 [I64 g,I64 i,I64 j]∧
 CF 22 #[.agg #[I64 g,I64 i,I64 j],I64 r4] u fun ae af=>∃r5,ae=(I64 r5)∧
 K (.tuple #[I64 r5,I64 0]) af) (
 IF (!decide (c=r1)) (
 K (.tuple #[I64 0,I64 17]) a) (
 K (.tuple #[I64 c,I64 0]) a))))))
theorem qfa.call {a b c d e H K:_}(hK:qfa.code a b c d e H K):CF 193 ⟨[.agg #[I64 a,I64 b,I64 c],.agg #[I64 d,I64 e]]⟩ H K:=
 cE Tryz.func193 (.r (.r (.seq (.r (.cond (.r .no) .no)) (.seq (.r (.cond (.r .no) .no)) (.seq (.r (.blk (.r (.cond (.r .no) (.r (.cond (.r .no) (.r (.cond (.r .no) .no)))))))) (.seq (.r (.cond (.r .no) .no)) (.r .no))))))) hK
def qcx.code (u v w x y:Int)(H:Heap)(K:KT):Prop:=
 AL H [I64 u,I64 v,I64 w] 70 fun b z=>
 AL z [I64 x,I64 y] 53 fun c t=>
 ∃c0 k l,q01 t b 0 [I64 c0,I64 k,I64 l]∧
 CF 75 #[.agg #[I64 c0,I64 k,I64 l]] t fun aa i=>∃m,aa=(.bool m)∧
 IF (!m) (
 K (.tuple #[I64 0,I64 0,I64 21]) i) (
 ∃n o,q01 i c 0 [I64 n,I64 o]∧
 CF 142 #[.agg #[I64 n,I64 o]] i fun ab a=>∃r1,ab=(.bool r1)∧
 IF (!r1) (
 K (.tuple #[I64 0,I64 0,I64 10]) a) (
 ∃p q r,q01 a b 0 [I64 p,I64 q,I64 r]∧
 ∃s,q00 a c 0=some (I64 s)∧
 ∃d e f,q01 a b 0 [I64 d,I64 e,I64 f]∧
 ∃g,q00 a c 1=some (I64 g)∧
 CF 22 #[.agg #[I64 p,I64 q,I64 r],I64 s] a fun ac j=>∃r2,ac=(I64 r2)∧
 q00 j c 1=some (I64 g)∧
 q01 j b 0 [I64 d,I64 e,I64 f]∧
 CF 22 #[.agg #[I64 d,I64 e,I64 f],I64 g] j fun ad ae=>∃r3,ad=(I64 r3)∧
 K (.tuple #[I64 r2,I64 r3,I64 0]) ae))
theorem qcx.call {a b c d e H K:_}(hK:qcx.code a b c d e H K):CF 191 ⟨[.agg #[I64 a,I64 b,I64 c],.agg #[I64 d,I64 e]]⟩ H K:=
 cE Tryz.func191 (.r (.seq (.r (.cond (.r .no) .no)) (.seq (.r (.cond (.r .no) .no)) (.r .no)))) hK
def qia.code (a b:Int)(H:Heap)(K:KT):Prop:=
 IF (decide ((q0d .and .i64 (q0d .xor .i64 a (i64.wrap (a+b))) (q0d .xor .i64 b (i64.wrap (a+b)))) < 0)) (
 K (.tuple #[I64 0,I64 12]) H) (
 K (.tuple #[I64 (i64.wrap (a+b)),I64 0]) H)
theorem qia.call {c d H K:_}(hK:qia.code c d H K):CF 187 ⟨[I64 c,I64 d]⟩ H K:=
 cE Tryz.func187 (.r (.r (.seq (.r (.cond (.r .no) .no)) (.r .no)))) hK
def qcy.code (a c:Int)(H:Heap)(K:KT):Prop:=
 IF ((decide (a < (-4611686018427387904))) || (decide (4611686018427387904 < a))) (
 K (.tuple #[I64 0,I64 11]) H) (
 CF 185 #[I64 (i64.wrap (0 - a)),I64 c] H fun d e=>∃b r1,d=(.tuple #[I64 b,I64 r1])∧
 K (.tuple #[I64 (i64.wrap (0 - b)),I64 r1]) e)
theorem qcy.call {a b H K:_}(hK:qcy.code a b H K):CF 186 ⟨[I64 a,I64 b]⟩ H K:=
 cE Tryz.func186 (.r (.seq (.r (.cond (.r .no) .no)) (.r (.r .no)))) hK
def qfb.code (a b:Int)(H:Heap)(K:KT):Prop:=
 ∃c,((((decide (a < (-4611686018427387904))) || (decide (4611686018427387904 < a)))=false)→CQ 218 #[I64 b] H (.bool c))∧
 IF (((decide (a < (-4611686018427387904))) || (decide (4611686018427387904 < a))) || (!c)) (
 K (.tuple #[I64 0,I64 11]) H) (
 IF (decide (0 < a)) (
 CF 219 #[I64 (i64.wrap (a - 1)),I64 1000000,I64 (i64.wrap (1000000+b)),.bool true] H fun d e=>∃r1 r2,d=(.tuple #[I64 r1,I64 r2])∧
 K (.tuple #[I64 (if r1 > 1 then r1 else 1),I64 r2]) e) (
 CF 219 #[I64 (i64.wrap (1 - a)),I64 1000000,I64 (i64.wrap (1000000 - b)),.bool false] H fun f g=>∃r3 r4,f=(.tuple #[I64 r3,I64 r4])∧
 K (.tuple #[I64 (i64.wrap (0 - r3)),I64 r4]) g))
theorem qfb.call {a b H K:_}(hK:qfb.code a b H K):CF 185 ⟨[I64 a,I64 b]⟩ H K:=
 cE Tryz.func185 (.r (.seq (.r (.cond (.r .no) .no)) (.seq (.r (.cond (.r (.r .no)) .no)) (.r (.r .no))))) hK
def qbq.code (a:Int)(H:Heap)(K:KT):Prop:=
 K (.bool ((decide (0≤a)) && (decide (a≤4611686018427387903)))) H
theorem qbq.call {a H K:_}(hK:qbq.code a H K):CF 166 ⟨[I64 a]⟩ H K:=
 cE Tryz.func166 (.r (.r .no)) hK
def qib.code (k:Option Addr)(l m:Nat)(H:Heap)(K:KT):Prop:=
 AL H [I64 0,I64 0] 53 fun f n=>
 AL n [I64 0,I64 0] 53 fun g o=>
 ST o g 0 [I64 (-9223372036854775808),I64 9223372036854775807] fun i=>
 ∃c0 a,q01 i g 0 [I64 c0,I64 a]∧
 CF 200 #[.agg #[I64 c0,I64 a],.slice k l m,.func (.func 201) #[] #[]] i fun p q=>∃b r1 c,p=(.tuple #[.agg #[I64 b,I64 r1],I64 c])∧
 ST q f 0 [I64 b,I64 r1] fun j=>
 ∃d e,q01 j f 0 [I64 d,I64 e]∧
 K (.tuple #[.agg #[I64 d,I64 e],I64 c]) j
theorem qib.call {a b c H K:_}(hK:qib.code a b c H K):CF 159 ⟨[.slice a b c]⟩ H K:=
 cE Tryz.func159 (.r (.r (.r .no))) hK
def q6z.r1 (K:KT)(f:Nat)(s:(Option Addr)→Nat→Nat→Int→Heap→Prop)(g:(Option Addr)→Nat→Nat→Int→Heap→Nat)(i:Option Addr)(j k:Nat)(a:Int)(t:Heap)(u v:Nat)(l:Int)(b:Heap):Prop:=
 IF (!decide (l=0)) (
 ST b f 0 [I64 0,I64 0] fun q=>
 ∃m n,q01 q f 0 [I64 m,I64 n]∧
 K (.tuple #[.agg #[I64 m,I64 n],I64 l]) q) (
 ∃o p,q01 b u v [I64 o,I64 p]∧
 AL b [I64 o,I64 p] 53 fun w x=>
 RunW Tryz.prog (Builtin.append_ #[239,239] 239 #[.slice i j k,.slice (some ⟨w,0,none⟩) 1 1]) x fun y r=>
 ∃c d e,y=(.slice c d e)∧
 s c d e (i64.wrap (a+1)) r∧g c d e (i64.wrap (a+1)) r < g i j k a t)
def q6z.l2 (n o:Nat)(p:Int)(K:KT)(j:Nat)(an:Option Addr)(q:Nat)(ao:(Option Addr)→Nat→Nat→Int→Heap→Prop)(ap:(Option Addr)→Nat→Nat→Int→Heap→Nat)(r:Option Addr)(s t:Nat)(a:Int)(b:Heap):Prop:=
 IF (decide (a < (q:Int))) (
 ((0:Int)≤a∧a < (q:Int))∧∃ah ai:Nat,(an=some ⟨ah,ai,none⟩)∧
 ∃c0 x y z,q01 b ah (ai+a.toNat*4) [I64 c0,I64 x,I64 y,I64 z]∧
 AL b [I64 0,I64 0,I64 0,I64 0] 43 fun l aq=>
 ST aq l 0 [I64 c0,I64 x,I64 y,I64 z] fun i=>
 ∀k:Nat→Nat→Int→Heap→Prop,(∀(u:Nat) (v:Nat) (w:Int),∀aj:Heap,q6z.r1 K j ao ap r s t a b u v w aj→k u v w aj)→
 ∃c d e f,q01 i l 0 [I64 c,I64 d,I64 e,I64 f]∧
 ∃g,q00 i n o=some (I64 g)∧
 (CF 140 #[.agg #[I64 c,I64 d,I64 e,I64 f],I64 p,I64 g] i fun ar au=>∃aa r1 r2,ar=(.tuple #[.agg #[I64 aa,I64 r1],I64 r2])∧
 AL au [I64 0,I64 0] 53 fun ak av=>
 ST av ak 0 [I64 aa,I64 r1] fun aw=>
 k ak 0 r2 aw)∧
 (AL i [I64 0,I64 0] 53 fun al m=>
 q00 m n o=some (I64 g)∧
 q01 m l 0 [I64 c,I64 d,I64 e,I64 f]∧
 CF 140 #[.agg #[I64 c,I64 d,I64 e,I64 f],I64 p,I64 g] m fun ax ay=>∃ab ac r3,ax=(.tuple #[.agg #[I64 ab,I64 ac],I64 r3])∧
 ST ay al 0 [I64 ab,I64 ac] fun az=>
 k al 0 r3 az)) (
 CF 159 #[.slice r s t] b fun a0 a1=>∃ad ae r4,a0=(.tuple #[.agg #[I64 ad,I64 ae],I64 r4])∧
 ST a1 j 0 [I64 ad,I64 ae] fun am=>
 ∃af ag,q01 am j 0 [I64 af,I64 ag]∧
 K (.tuple #[.agg #[I64 af,I64 ag],I64 r4]) am)
def q6z.code (c d:Nat)(f:Int)(H:Heap)(K:KT):Prop:=
 AL H [I64 0,I64 0] 53 fun b a=>
 ∃ac g ad,q00 a c (d+4)=some (.slice ac g ad)∧
 IF (decide ((g:Int)=0)) (
 ST a b 0 [I64 0,I64 0] fun y=>
 ∃n o,q01 y b 0 [I64 n,I64 o]∧
 K (.tuple #[.agg #[I64 n,I64 o],I64 19]) y) (
 ∃p,CQ 166 #[I64 f] a (.bool p)∧
 IF (!p) (
 ST a b 0 [I64 0,I64 0] fun z=>
 ∃q r,q01 z b 0 [I64 q,I64 r]∧
 K (.tuple #[.agg #[I64 q,I64 r],I64 11]) z) (
 ∃ae i af,q00 a c (d+4)=some (.slice ae i af)∧
 RunW Tryz.prog (Instr.makeSlice 239 (I64 0) (I64 (i:Int))) a fun ah aa=>
 ∃s t u,ah=(.slice s t u)∧
 ∃v w ag,q00 aa c (d+4)=some (.slice v w ag)∧
 ∃(e:(Option Addr)→Nat→Nat→Int→Heap→Prop) (ab:(Option Addr)→Nat→Nat→Int→Heap→Nat),e s t u 0 aa∧
 ∀(j:Option Addr) (k:Nat) (l:Nat) (m:Int),∀x:Heap,e j k l m x→q6z.l2 c d f K b v w e ab j k l m x))
theorem q6z.call {a b c H K:_}(hK:q6z.code a b c H K):CF 158 ⟨[PA a b,I64 c]⟩ H K:=
 cE Tryz.func158 (.r (.seq (.r (.cond (.r .no) .no)) (.seq (.r (.cond (.r .no) .no)) (.r (.seq (.r (.blk (.loop [(6,.one (.slice)),(33,.one (.int .i64))] (.r (.seq (.cond .no .no) (.seq (.blk (.r (.seq (.regJ [(9,.one (.adr)),(10,.one (.int .i64))]) (.seq (.r (.cond (.r .no) .no)) .reg)))) .reg)))))) (.r .no)))))) hK
def q16.r1 (K:KT)(a b:Int)(c:Heap):Prop:=
 ((0:Int)≤(u8.wrap a)∧(u8.wrap a) < ((⟨#[0,1,2,2,3,3,3,3,4,4,4,4,4,4,4,4,5,5,5,5,5,5,5,5,5,5,5,5,5,5,5,5,6,6,6,6,6,6,6,6,6,6,6,6,6,6,6,6,6,6,6,6,6,6,6,6,6,6,6,6,6,6,6,6,7,7,7,7,7,7,7,7,7,7,7,7,7,7,7,7,7,7,7,7,7,7,7,7,7,7,7,7,7,7,7,7,7,7,7,7,7,7,7,7,7,7,7,7,7,7,7,7,7,7,7,7,7,7,7,7,7,7,7,7,7,7,7,7,8,8,8,8,8,8,8,8,8,8,8,8,8,8,8,8,8,8,8,8,8,8,8,8,8,8,8,8,8,8,8,8,8,8,8,8,8,8,8,8,8,8,8,8,8,8,8,8,8,8,8,8,8,8,8,8,8,8,8,8,8,8,8,8,8,8,8,8,8,8,8,8,8,8,8,8,8,8,8,8,8,8,8,8,8,8,8,8,8,8,8,8,8,8,8,8,8,8,8,8,8,8,8,8,8,8,8,8,8,8,8,8,8,8,8,8,8,8,8,8,8,8,8,8,8,8,8,8]⟩:ByteArray).size:Int))∧
 K (I64 (i64.wrap (b+(i64.wrap (bAt (⟨#[0,1,2,2,3,3,3,3,4,4,4,4,4,4,4,4,5,5,5,5,5,5,5,5,5,5,5,5,5,5,5,5,6,6,6,6,6,6,6,6,6,6,6,6,6,6,6,6,6,6,6,6,6,6,6,6,6,6,6,6,6,6,6,6,7,7,7,7,7,7,7,7,7,7,7,7,7,7,7,7,7,7,7,7,7,7,7,7,7,7,7,7,7,7,7,7,7,7,7,7,7,7,7,7,7,7,7,7,7,7,7,7,7,7,7,7,7,7,7,7,7,7,7,7,7,7,7,7,8,8,8,8,8,8,8,8,8,8,8,8,8,8,8,8,8,8,8,8,8,8,8,8,8,8,8,8,8,8,8,8,8,8,8,8,8,8,8,8,8,8,8,8,8,8,8,8,8,8,8,8,8,8,8,8,8,8,8,8,8,8,8,8,8,8,8,8,8,8,8,8,8,8,8,8,8,8,8,8,8,8,8,8,8,8,8,8,8,8,8,8,8,8,8,8,8,8,8,8,8,8,8,8,8,8,8,8,8,8,8,8,8,8,8,8,8,8,8,8,8,8,8,8,8,8,8,8]⟩:ByteArray) (u8.wrap a).toNat))))) c
def q16.r2 (K:KT)(a c:Int)(d:Heap):Prop:=
 ∀b:Int→Int→Heap→Prop,(∀(e:Int) (f:Int),∀g:Heap,q16.r1 K e f g→b e f g)→
 IF (decide (256≤a)) (
 ((0:Int)≤8)∧
 b (Int.fdiv a (2 ^ (min (Int.toNat 8) (u64.bits)))) (i64.wrap (c+8)) d) (
 b a c d)
def q16.r3 (K:KT)(a c:Int)(d:Heap):Prop:=
 ∀b:Int→Int→Heap→Prop,(∀(e:Int) (f:Int),∀g:Heap,q16.r2 K e f g→b e f g)→
 IF (decide (65536≤a)) (
 ((0:Int)≤16)∧
 b (Int.fdiv a (2 ^ (min (Int.toNat 16) (u64.bits)))) (i64.wrap (c+16)) d) (
 b a c d)
def q16.code (a:Int)(H:Heap)(K:KT):Prop:=
 ∀b:Int→Int→Heap→Prop,(∀(c:Int) (d:Int),∀e:Heap,q16.r3 K c d e→b c d e)→
 IF (decide (4294967296≤a)) (
 ((0:Int)≤32)∧
 b (Int.fdiv a (2 ^ (min (Int.toNat 32) (u64.bits)))) 32 H) (
 b a 0 H)
theorem q16.call {a H K:_}(hK:q16.code a H K):CF 152 ⟨[.int .u64 a]⟩ H K:=
 cE Tryz.func152 (.r (.seq (.r (.condJ [(0,.one (.int .u64)),(2,.one (.int .i64))] (.r .reg) .no)) (.seq (.r (.condJ [(0,.one (.int .u64)),(2,.one (.int .i64))] (.r .reg) .no)) (.seq (.r (.condJ [(0,.one (.int .u64)),(2,.one (.int .i64))] (.r .reg) .no)) (.r .no))))) hK
def qfc.code (e f:Int)(H:Heap)(K:KT):Prop:=
 AL H [I64 e,I64 f] 53 fun d a=>
 ∃b,q00 a d 0=some (I64 b)∧
 ∃c,q00 a d 1=some (I64 c)∧
 K (.bool (decide (b≤c))) a
theorem qfc.call {a b H K:_}(hK:qfc.code a b H K):CF 142 ⟨[.agg #[I64 a,I64 b]]⟩ H K:=
 cE Tryz.func142 (.r (.r .no)) hK
def qa8.code (d:Option Addr)(a e:Nat)(H:Heap)(K:KT):Prop:=
 CF 159 #[.slice d a e] H fun f g=>∃b r1 c,f=(.tuple #[.agg #[I64 b,I64 r1],I64 c])∧
 AL g [I64 0,I64 0] 53 fun i j=>
 ST j i 0 [I64 b,I64 r1] fun k=>
 K (.bool ((decide (0 < (a:Int))) && (decide (c=0)))) k
theorem qa8.call {a b c H K:_}(hK:qa8.code a b c H K):CF 141 ⟨[.slice a b c]⟩ H K:=
 cE Tryz.func141 (.r (.r (.r .no))) hK
def q1h.r1 (K:KT)(a:Nat)(r3 b c:Int)(d:Heap):Prop:=
 IF (decide ((if 4611686018427387903 < c then 4611686018427387903 else c) < (if 0 > (i64.wrap (b+r3)) then 0 else (i64.wrap (b+r3))))) (
 ST d a 0 [I64 0,I64 0] fun j=>
 ∃e f,q01 j a 0 [I64 e,I64 f]∧
 K (.tuple #[.agg #[I64 e,I64 f],I64 13]) j) (
 ST d a 0 [I64 (if 0 > (i64.wrap (b+r3)) then 0 else (i64.wrap (b+r3))),I64 (if 4611686018427387903 < c then 4611686018427387903 else c)] fun k=>
 ∃g i,q01 k a 0 [I64 g,I64 i]∧
 K (.tuple #[.agg #[I64 g,I64 i],I64 0]) k)
def q1h.code (ab ac ad ae e f:Int)(H:Heap)(K:KT):Prop:=
 AL H [I64 ab,I64 ac,I64 ad,I64 ae] 43 fun b af=>
 AL af [I64 0,I64 0] 53 fun c x=>
 ∃c0 i j k,q01 x b 0 [I64 c0,I64 i,I64 j,I64 k]∧
 CF 98 #[.agg #[I64 c0,I64 i,I64 j,I64 k]] x fun ag a=>∃l,ag=(.bool l)∧
 IF (!l) (
 ST a c 0 [I64 0,I64 0] fun y=>
 ∃m n,q01 y c 0 [I64 m,I64 n]∧
 K (.tuple #[.agg #[I64 m,I64 n],I64 10]) y) (
 ∃r1,CQ 166 #[I64 e] a (.bool r1)∧
 ∃r2,(((!r1)=false)→CQ 116 #[I64 f] a (.bool r2))∧
 IF ((!r1) || (!r2)) (
 ST a c 0 [I64 0,I64 0] fun z=>
 ∃o p,q01 z c 0 [I64 o,I64 p]∧
 K (.tuple #[.agg #[I64 o,I64 p],I64 11]) z) (
 ∃q,q00 a b 1=some (I64 q)∧
 CF 185 #[I64 (i64.wrap (e - q)),I64 f] a fun ah aa=>∃r3 r4,ah=(.tuple #[I64 r3,I64 r4])∧
 ∃r,q00 aa b 2=some (I64 r)∧
 CF 186 #[I64 (i64.wrap (e - r)),I64 f] aa fun ai d=>∃r5 r6,ai=(.tuple #[I64 r5,I64 r6])∧
 ∃s,q00 d b 0=some (I64 s)∧
 ∃t,q00 d b 3=some (I64 t)∧
 ∃r7 u,CQ 187 #[I64 t,I64 r5] d (.tuple #[I64 r7,I64 u])∧
 ∀g:Int→Heap→Prop,(∀v w,q1h.r1 K c r3 s v w→g v w)→
 IF (!decide (u=0)) (
 g 4611686018427387903 d) (
 g r7 d)))
theorem q1h.call {a b c d e f H K:_}(hK:q1h.code a b c d e f H K):CF 140 ⟨[.agg #[I64 a,I64 b,I64 c,I64 d],I64 e,I64 f]⟩ H K:=
 cE Tryz.func140 (.r (.seq (.r (.cond (.r .no) .no)) (.seq (.r (.cond (.r .no) .no)) (.r (.r (.r (.r (.seq (.r (.condJ [(13,.one (.int .i64))] .reg .no)) (.r (.seq (.r (.cond (.r .no) .no)) (.r .no))))))))))) hK
def qbr.code (b c:Nat)(H:Heap)(K:KT):Prop:=
 ∃a,q00 H b (c+1+2)=some (I64 a)∧
 K (I64 a) H
theorem qbr.call {a b H K:_}(hK:qbr.code a b H K):CF 125 ⟨[PA a b]⟩ H K:=
 cE Tryz.func125 (.r (.r .no)) hK
def qbs.code (a:Int)(H:Heap)(K:KT):Prop:=
 K (.bool ((decide (0≤a)) && (decide (a≤100000)))) H
theorem qbs.call {a H K:_}(hK:qbs.code a H K):CF 116 ⟨[I64 a]⟩ H K:=
 cE Tryz.func116 (.r (.r .no)) hK
def q88.l1 (c d:Nat)(y:Bool)(z:Int)(g:Option Addr)(e aa:Nat)(K:KT)(ab:Int→Heap→Prop)(i:Int→Heap→Nat)(a:Int)(b:Heap):Prop:=
 IF (decide (a < (e:Int))) (
 ((0:Int)≤a∧a < (e:Int))∧∃u v:Nat,(g=some ⟨u,v,none⟩)∧
 ∃c0 j k l,q01 b u (v+a.toNat*4) [I64 c0,I64 j,I64 k,I64 l]∧
 AL b [I64 0,I64 0,I64 0,I64 0] 43 fun w ac=>
 ST ac w 0 [I64 c0,I64 j,I64 k,I64 l] fun x=>
 ∃m n o p,q01 x w 0 [I64 m,I64 n,I64 o,I64 p]∧
 CF 98 #[.agg #[I64 m,I64 n,I64 o,I64 p]] x fun ad f=>∃q,ad=(.bool q)∧
 IF (!q) (
 K (I64 10) f) (
 ab (i64.wrap (a+1)) f∧i (i64.wrap (a+1)) f < i a b)) (
 CF 155 #[.slice g e aa] b fun ae af=>∃r s t,ae=(.slice r s t)∧
 ST af c (d+1+1) [.bool y] fun ag=>
 ST ag c (d+1+2) [I64 z] fun ah=>
 ST ah c (d+4) [.slice r s t] fun ai=>
 K (I64 0) ai)
def q88.code (f g:Nat)(i:Bool)(b:Int)(j:Option Addr)(c k:Nat)(H:Heap)(K:KT):Prop:=
 IF ((decide (8 < (c:Int))) || (decide (b < 0))) (
 K (I64 10) H) (
 ∃(a:Int→Heap→Prop) (l:Int→Heap→Nat),a 0 H∧
 ∀d e,a d e→q88.l1 f g i b j c k K a l d e)
theorem q88.call {a b c d e f g H K:_}(hK:q88.code a b c d e f g H K):CF 106 ⟨[PA a b,.bool c,I64 d,.slice e f g]⟩ H K:=
 cE Tryz.func106 (.r (.seq (.r (.cond (.r .no) .no)) (.seq (.r (.blk (.loop [(20,.one (.int .i64))] (.r (.seq (.cond .no .no) (.seq (.blk (.r (.r (.cond (.r .no) .no)))) .reg)))))) (.r (.r .no))))) hK
def q3s.code (m n o p:Int)(H:Heap)(K:KT):Prop:=
 AL H [I64 m,I64 n,I64 o,I64 p] 43 fun c a=>
 ∃f,q00 a c 0=some (I64 f)∧
 ∃b,CQ 166 #[I64 f] a (.bool b)∧
 ∃g,((b=true)→q00 a c 1=some (I64 g))∧
 ∃r1,((b=true)→CQ 166 #[I64 g] a (.bool r1))∧
 ∃i,(((b && r1)=true)→q00 a c 2=some (I64 i))∧
 ∃r2,(((b && r1)=true)→CQ 166 #[I64 i] a (.bool r2))∧
 ∃j,((((b && r1) && r2)=true)→q00 a c 3=some (I64 j))∧
 ∃r3,((((b && r1) && r2)=true)→CQ 166 #[I64 j] a (.bool r3))∧
 ∃d,(((((b && r1) && r2) && r3)=true)→q00 a c 0=some (I64 d))∧
 ∃e,(((((b && r1) && r2) && r3)=true)→q00 a c 3=some (I64 e))∧
 ∃k,((((((b && r1) && r2) && r3) && (decide (d≤e)))=true)→q00 a c 1=some (I64 k))∧
 ∃l,((((((b && r1) && r2) && r3) && (decide (d≤e)))=true)→q00 a c 2=some (I64 l))∧
 K (.bool (((((b && r1) && r2) && r3) && (decide (d≤e))) && (decide (k≤l)))) a
theorem q3s.call {a b c d H K:_}(hK:q3s.code a b c d H K):CF 98 ⟨[.agg #[I64 a,I64 b,I64 c,I64 d]]⟩ H K:=
 cE Tryz.func98 (.r (.r .no)) hK
def qa9.code (g i:Nat)(H:Heap)(K:KT):Prop:=
 ∃a b c,q00 H g (i+4)=some (.slice a b c)∧
 CF 155 #[.slice a b c] H fun j k=>∃d e f,j=(.slice d e f)∧
 K (.slice d e f) k
theorem qa9.call {a b H K:_}(hK:qa9.code a b H K):CF 84 ⟨[PA a b]⟩ H K:=
 cE Tryz.func84 (.r (.r .no)) hK
def qcz.code (j k l:Int)(H:Heap)(K:KT):Prop:=
 AL H [I64 j,I64 k,I64 l] 70 fun d b=>
 ∃a,q00 b d 0=some (I64 a)∧
 ∃c,(((decide (1≤a))=true)→q00 b d 0=some (I64 c))∧
 ∃e,((((decide (1≤a)) && (decide (c≤1099511627776)))=true)→q00 b d 1=some (I64 e))∧
 ∃f,(((((decide (1≤a)) && (decide (c≤1099511627776))) && (decide (0≤e)))=true)→q00 b d 1=some (I64 f))∧
 ∃g,((((((decide (1≤a)) && (decide (c≤1099511627776))) && (decide (0≤e))) && (decide (f≤3)))=true)→q00 b d 2=some (I64 g))∧
 ∃i,(((((((decide (1≤a)) && (decide (c≤1099511627776))) && (decide (0≤e))) && (decide (f≤3))) && (decide (0≤g)))=true)→q00 b d 2=some (I64 i))∧
 K (.bool ((((((decide (1≤a)) && (decide (c≤1099511627776))) && (decide (0≤e))) && (decide (f≤3))) && (decide (0≤g))) && (decide (i≤4611686018427387903)))) b
theorem qcz.call {a b c H K:_}(hK:qcz.code a b c H K):CF 75 ⟨[.agg #[I64 a,I64 b,I64 c]]⟩ H K:=
 cE Tryz.func75 (.r (.r .no)) hK
def qgn.code (b c:Nat)(H:Heap)(K:KT):Prop:=
 ∃a,q00 H b (c+1+1)=some (.bool a)∧
 K (.bool a) H
theorem qgn.call {a b H K:_}(hK:qgn.code a b H K):CF 70 ⟨[PA a b]⟩ H K:=
 cE Tryz.func70 (.r (.r .no)) hK
def q0l.r1 (n:(Option Addr)→Nat→Nat→Int→Heap→Prop)(e:(Option Addr)→Nat→Nat→Int→Heap→Nat)(f:Option Addr)(g i:Nat)(a:Int)(o:Heap)(p q:Nat)(j:Heap):Prop:=
 ∃k l,q01 j p q [I64 k,I64 l]∧
 AL j [I64 k,I64 l] 53 fun r s=>
 RunW Tryz.prog (Builtin.append_ #[239,239] 239 #[.slice f g i,.slice (some ⟨r,0,none⟩) 1 1]) s fun t m=>
 ∃b c d,t=(.slice b c d)∧
 n b c d (i64.wrap (a+1)) m∧e b c d (i64.wrap (a+1)) m < e f g i a o
def q0l.r2 (f:(Option Addr)→Nat→Nat→Int→Heap→Prop)(g:(Option Addr)→Nat→Nat→Int→Heap→Nat)(i:Option Addr)(j k:Nat)(l:Int)(m:Heap)(b c:Nat)(n:Int)(d:Heap):Prop:=
 ∀a:Heap→Prop,(∀e,q0l.r1 f g i j k l m b c e→a e)→
 IF (!decide (n=0)) (
 ST d b c [I64 1,I64 0] fun o=>
 a o) (
 a d)
def q0l.r3 (K:KT)(a:Heap):Prop:=
 K (I64 0) a
def q0l.r4 (b c:Nat)(K:KT)(a:Heap):Prop:=
 ∃e,q00 a b (c+1+2)=some (I64 e)∧
 ∃f,q00 a b (c+1)=some (I64 f)∧
 ∀d:Heap→Prop,(∀g,q0l.r3 K g→d g)→
 IF (decide (f≤e)) (
 ST a b (c+1+1) [.bool false] fun i=>
 d i) (
 d a)
def q0l.r5 (K:KT)(a:Heap):Prop:=
 K (I64 21) a
def q0l.l6 (a b:Nat)(K:KT)(p:Nat)(a2:Option Addr)(w:Nat)(a3:(Option Addr)→Nat→Nat→Int→Heap→Prop)(a4:(Option Addr)→Nat→Nat→Int→Heap→Nat)(q:Option Addr)(c x:Nat)(d:Int)(g:Heap):Prop:=
 IF (decide (d < (w:Int))) (
 ((0:Int)≤d∧d < (w:Int))∧∃au av:Nat,(a2=some ⟨au,av,none⟩)∧
 ∃ab ac ad ae,q01 g au (av+d.toNat*4) [I64 ab,I64 ac,I64 ad,I64 ae]∧
 AL g [I64 0,I64 0,I64 0,I64 0] 43 fun u a5=>
 ST a5 u 0 [I64 ab,I64 ac,I64 ad,I64 ae] fun e=>
 ∀r:Nat→Nat→Int→Heap→Prop,(∀(y:Nat) (z:Nat) (aa:Int),∀aw:Heap,q0l.r2 a3 a4 q c x d g y z aa aw→r y z aa aw)→
 ∃i j k l,q01 e u 0 [I64 i,I64 j,I64 k,I64 l]∧
 ∃m,q00 e p 2=some (I64 m)∧
 ∃n,q00 e a b=some (I64 n)∧
 (CF 140 #[.agg #[I64 i,I64 j,I64 k,I64 l],I64 m,I64 n] e fun a6 a7=>∃af r1 r2,a6=(.tuple #[.agg #[I64 af,I64 r1],I64 r2])∧
 AL a7 [I64 0,I64 0] 53 fun az a8=>
 ST a8 az 0 [I64 af,I64 r1] fun a9=>
 r az 0 r2 a9)∧
 (AL e [I64 0,I64 0] 53 fun a0 o=>
 q00 o a b=some (I64 n)∧
 q00 o p 2=some (I64 m)∧
 q01 o u 0 [I64 i,I64 j,I64 k,I64 l]∧
 CF 140 #[.agg #[I64 i,I64 j,I64 k,I64 l],I64 m,I64 n] o fun ba bb=>∃ag ah r3,ba=(.tuple #[.agg #[I64 ag,I64 ah],I64 r3])∧
 ST bb a0 0 [I64 ag,I64 ah] fun bc=>
 r a0 0 r3 bc)) (
 CF 141 #[.slice q c x] g fun bd f=>∃r4,bd=(.bool r4)∧
 IF r4 (
 ∃ai,q00 f a (b+1+2)=some (I64 ai)∧
 ∀s:Heap→Prop,(∀aj,q0l.r4 a b K aj→s aj)→
 IF (decide (ai < 9223372036854775807)) (
 ∃ak,q00 f a (b+1+2)=some (I64 ak)∧
 ST f a (b+1+2) [I64 (i64.wrap (ak+1))] fun be=>
 s be) (
 s f)) (
 ST f a (b+1+1) [.bool true] fun bf=>
 ST bf a (b+1+2) [I64 0] fun bg=>
 ST bg a (b+4) [.slice none 0 0] fun a1=>
 ((0:Int)≤(i64.wrap ((c:Int) - 1))∧(i64.wrap ((c:Int) - 1)) < (c:Int))∧∃ax ay:Nat,(q=some ⟨ax,ay,none⟩)∧
 ∃al am,q01 a1 ax (ay+(i64.wrap ((c:Int) - 1)).toNat*2) [I64 al,I64 am]∧
 CF 142 #[.agg #[I64 al,I64 am]] a1 fun bh v=>∃r5,bh=(.bool r5)∧
 ∀t:Heap→Prop,(∀an,q0l.r5 K an→t an)→
 IF r5 (
 ∃ao ap aq ar,q01 v p 0 [I64 ao,I64 ap,I64 aq,I64 ar]∧
 AL v [I64 ao,I64 ap,I64 aq,I64 ar] 43 fun bi bj=>
 ST bj a (b+4) [.slice (some ⟨bi,0,none⟩) 1 1] fun bk=>
 t bk) (
 t v)))
def q0l.r7 (a b:Nat)(K:KT)(r:Nat)(d:Heap):Prop:=
 ∃t e u,q00 d a (b+4)=some (.slice t e u)∧
 RunW Tryz.prog (Instr.makeSlice 239 (I64 0) (I64 (e:Int))) d fun w q=>
 ∃k l m,w=(.slice k l m)∧
 ∃n o v,q00 q a (b+4)=some (.slice n o v)∧
 ∃(c:(Option Addr)→Nat→Nat→Int→Heap→Prop) (s:(Option Addr)→Nat→Nat→Int→Heap→Nat),c k l m 0 q∧
 ∀(f:Option Addr) (g:Nat) (i:Nat) (j:Int),∀p:Heap,c f g i j p→q0l.l6 a b K r n o c s f g i j p
def q0l.code (a b:Nat)(af ag ah ai:Int)(H:Heap)(K:KT):Prop:=
 AL H [I64 af,I64 ag,I64 ah,I64 ai] 43 fun j ad=>
 ∃c0 l m n,q01 ad j 0 [I64 c0,I64 l,I64 m,I64 n]∧
 CF 98 #[.agg #[I64 c0,I64 l,I64 m,I64 n]] ad fun al c=>∃o,al=(.bool o)∧
 IF (!o) (
 K (I64 10) c) (
 ∃e f g,q00 c a (b+4)=some (.slice e f g)∧
 ∃p q r s,q01 c j 0 [I64 p,I64 q,I64 r,I64 s]∧
 AL c [I64 p,I64 q,I64 r,I64 s] 43 fun am ae=>
 q00 ae a (b+4)=some (.slice e f g)∧
 RunW Tryz.prog (Builtin.append_ #[166,166] 166 #[.slice e f g,.slice (some ⟨am,0,none⟩) 1 1]) ae fun an ao=>
 ∃t u v,an=(.slice t u v)∧
 ST ao a (b+4) [.slice t u v] fun d=>
 ∃aj k ak,q00 d a (b+4)=some (.slice aj k ak)∧
 ∀i:Heap→Prop,(∀w,q0l.r7 a b K j w→i w)→
 IF (decide (8 < (k:Int))) (
 ∃x y z,q00 d a (b+4)=some (.slice x y z)∧
 CF 139 #[.slice x y z,I64 0,I64 1] d fun ap aq=>∃aa ab ac,ap=(.slice aa ab ac)∧
 ST aq a (b+4) [.slice aa ab ac] fun ar=>
 i ar) (
 i d))
theorem q0l.call {a b c d e f H K:_}(hK:q0l.code a b c d e f H K):CF 68 ⟨[PA a b,.agg #[I64 c,I64 d,I64 e,I64 f]]⟩ H K:=
 cE Tryz.func68 (.r (.seq (.r (.cond (.r .no) .no)) (.r (.seq (.r (.condJ [] .reg .no)) (.r (.seq (.r (.blk (.loop [(5,.one (.slice)),(48,.one (.int .i64))] (.r (.seq (.cond .no .no) (.seq (.blk (.r (.seq (.regJ [(8,.one (.adr)),(9,.one (.int .i64))]) (.seq (.r (.condJ [] .reg .no)) .reg)))) .reg)))))) (.seq (.r (.cond (.seq (.r (.condJ [] .reg .no)) (.seq (.r (.condJ [] .reg .no)) (.r .no))) .no)) (.r (.seq (.r (.condJ [] .reg .no)) (.r .no)))))))))) hK
def qfd.code (b a:Int)(H:Heap)(K:KT):Prop:=
 ∃c,CQ 116 #[I64 b] H (.bool c)∧
 IF (((!c) || (decide (a < 0))) || (decide (100 < a))) (
 K (.tuple #[.pointer none,I64 11]) H) (
 AL H [I64 b,I64 a,.bool false,I64 0,.slice none 0 0] 205 fun d e=>
 K (.tuple #[PA d 0,I64 0]) e)
theorem qfd.call {a b H K:_}(hK:qfd.code a b H K):CF 53 ⟨[I64 a,I64 b]⟩ H K:=
 cE Tryz.func53 (.r (.seq (.r (.cond (.r .no) .no)) (.r .no))) hK
def q3z.r1 (K:KT)(a:Int)(b:Heap):Prop:=
 K (I64 a) b
def q3z.code (n o p c:Int)(H:Heap)(K:KT):Prop:=
 AL H [I64 n,I64 o,I64 p] 70 fun f m=>
 ∃c0 g i,q01 m f 0 [I64 c0,I64 g,I64 i]∧
 CF 75 #[.agg #[I64 c0,I64 g,I64 i]] m fun q a=>∃j,q=(.bool j)∧
 IF (!j) (
 K (I64 0) a) (
 ∃b,q00 a f 0=some (I64 b)∧
 (b≠0)∧
 ∃d,q00 a f 0=some (I64 d)∧
 (d≠0)∧
 ∀e:Int→Heap→Prop,(∀k l,q3z.r1 K k l→e k l)→
 IF (decide ((Int.tmod c d) < 0)) (
 e (i64.wrap ((i64.wrap (Int.tdiv c b)) - 1)) a) (
 e (i64.wrap (Int.tdiv c b)) a))
theorem q3z.call {a b c d H K:_}(hK:q3z.code a b c d H K):CF 22 ⟨[.agg #[I64 a,I64 b,I64 c],I64 d]⟩ H K:=
 cE Tryz.func22 (.r (.seq (.r (.cond (.r .no) .no)) (.r (.seq (.r (.condJ [(5,.one (.int .i64))] .reg .no)) (.r .no))))) hK
def qic.code (t u v:Int)(H:Heap)(K:KT):Prop:=
 AL H [I64 0,I64 0,I64 0] 70 fun a w=>
 AL w [I64 0,I64 0,I64 0] 70 fun b x=>
 ST x b 0 [I64 t,I64 u,I64 v] fun q=>
 ∃c0 d e,q01 q b 0 [I64 c0,I64 d,I64 e]∧
 CF 75 #[.agg #[I64 c0,I64 d,I64 e]] q fun y c=>∃f,y=(.bool f)∧
 IF (!f) (
 ST c a 0 [I64 0,I64 0,I64 0] fun r=>
 ∃g i j,q01 r a 0 [I64 g,I64 i,I64 j]∧
 K (.tuple #[.agg #[I64 g,I64 i,I64 j],I64 11]) r) (
 ∃k l m,q01 c b 0 [I64 k,I64 l,I64 m]∧
 ST c a 0 [I64 k,I64 l,I64 m] fun s=>
 ∃n o p,q01 s a 0 [I64 n,I64 o,I64 p]∧
 K (.tuple #[.agg #[I64 n,I64 o,I64 p],I64 0]) s)
theorem qic.call {a b c H K:_}(hK:qic.code a b c H K):CF 20 ⟨[I64 a,I64 b,I64 c]⟩ H K:=
 cE Tryz.func20 (.r (.r (.seq (.r (.cond (.r .no) .no)) (.r .no)))) hK
open Go.Nm
def q6d.l1 (K:KT)(e:Nat→Int)(f:Int→Heap→Prop)(c:Int→Heap→Nat)(a:Int)(b:Heap):Prop:=
 IF (decide (a < 65)) (
 ∃d,q5z Tryz.prog (Instr.index 60 (.agg ⟨vecL .i64 e 65 0⟩) (I64 a)) (I64 d)∧
 IF (decide (d < 0)) (
 K (.bool false) b) (
 f (i64.wrap (a+1)) b∧c (i64.wrap (a+1)) b < c a b)) (
 K (.bool true) b)
def q6d.code (f:Nat→Int)(H:Heap)(K:KT):Prop:=
 AL H (vecL .i64 f 65 0) 60 fun i e=>
 ∃b,q01 e i 0 (vecL .i64 b 65 0)∧
 ∃(a:Int→Heap→Prop) (g:Int→Heap→Nat),a 0 e∧
 ∀c d,a c d→q6d.l1 K b a g c d
theorem q6d.call {a H K:_}(hK:q6d.code a H K):CF 282 ⟨[.agg ⟨vecL .i64 a 65 0⟩]⟩ H K:=
 cE Tryz.func282 (.r (.seq (.r (.blk (.loop [(6,.one (.int .i64))] (.r (.seq (.cond .no .no) (.seq (.blk (.r (.r (.cond (.r .no) .no)))) .reg)))))) (.r .no))) hK
def qid.code (r:Nat→Int)(s:Int)(H:Heap)(K:KT):Prop:=
 AL H (vecL .i64 r 65 0) 60 fun c t=>
 AL t (vecL .i64 Z0 65 0) 60 fun a m=>
 ∃d,q01 m c 0 (vecL .i64 d 65 0)∧
 CF 282 #[.agg ⟨vecL .i64 d 65 0⟩] m fun u b=>∃e,u=(.bool e)∧
 IF (!e) (
 ST b a 0 (vecL .i64 Z0 65 0) fun n=>
 ∃f,q01 n a 0 (vecL .i64 f 65 0)∧
 K (.tuple #[.agg ⟨vecL .i64 f 65 0⟩,I64 10]) n) (
 ∃r1,CQ 78 #[I64 s] b (I64 r1)∧
 ((0:Int)≤r1∧r1 < 65)∧
 ∃g,q00 b c (0+r1.toNat)=some (I64 g)∧
 IF (decide (g=9223372036854775807)) (
 ST b a 0 (vecL .i64 Z0 65 0) fun o=>
 ∃i,q01 o a 0 (vecL .i64 i 65 0)∧
 K (.tuple #[.agg ⟨vecL .i64 i 65 0⟩,I64 12]) o) (
 ((0:Int)≤r1∧r1 < 65)∧
 ∃j,q00 b c (0+r1.toNat)=some (I64 j)∧
 ((0:Int)≤r1∧r1 < 65)∧
 ST b c (0+r1.toNat) [I64 (i64.wrap (j+1))] fun p=>
 ∃k,q01 p c 0 (vecL .i64 k 65 0)∧
 ST p a 0 (vecL .i64 k 65 0) fun q=>
 ∃l,q01 q a 0 (vecL .i64 l 65 0)∧
 K (.tuple #[.agg ⟨vecL .i64 l 65 0⟩,I64 0]) q))
theorem qid.call {a b H K:_}(hK:qid.code a b H K):CF 263 ⟨[.agg ⟨vecL .i64 a 65 0⟩,I64 b]⟩ H K:=
 cE Tryz.func263 (.r (.seq (.r (.cond (.r .no) .no)) (.r (.seq (.r (.cond (.r .no) .no)) (.r (.r .no)))))) hK
def qie.code (s t u v:Int)(H:Heap)(K:KT):Prop:=
 AL H [I64 s,.int .u64 t] 58 fun e w=>
 AL w [I64 u,.int .u64 v] 58 fun f x=>
 AL x [I64 0,.int .u64 0] 58 fun d a=>
 ∃g,q00 a e 1=some (.int .u64 g)∧
 ∃i,q00 a f 1=some (.int .u64 i)∧
 ∃j r1,qj1 Tryz.prog 198 #[.int .u64 g,.int .u64 i,.int .u64 0] (.tuple #[.int .u64 j,.int .u64 r1])∧
 ∃b,q00 a e 0=some (I64 b)∧
 ∃c,q00 a f 0=some (I64 c)∧
 ∃k,q00 a e 0=some (I64 k)∧
 ∃l,q00 a f 0=some (I64 l)∧
 IF (decide ((q0d .and .i64 (q0d .xor .i64 k (i64.wrap ((i64.wrap (b+c))+(i64.wrap r1)))) (q0d .xor .i64 l (i64.wrap ((i64.wrap (b+c))+(i64.wrap r1))))) < 0)) (
 ST a d 0 [I64 0,.int .u64 0] fun q=>
 ∃m n,q01 q d 0 [I64 m,.int .u64 n]∧
 K (.tuple #[.agg #[I64 m,.int .u64 n],I64 12]) q) (
 ST a d 0 [I64 (i64.wrap ((i64.wrap (b+c))+(i64.wrap r1))),.int .u64 j] fun r=>
 ∃o p,q01 r d 0 [I64 o,.int .u64 p]∧
 K (.tuple #[.agg #[I64 o,.int .u64 p],I64 0]) r)
theorem qie.call {a b c d H K:_}(hK:qie.code a b c d H K):CF 262 ⟨[.agg #[I64 a,.int .u64 b],.agg #[I64 c,.int .u64 d]]⟩ H K:=
 cE Tryz.func262 (.r (.r (.r (.seq (.r (.cond (.r .no) .no)) (.r .no))))) hK
def q70.r1 (b:Int)(K:KT)(a m:Nat)(r1:Int)(n o d:Nat)(e:Heap):Prop:=
 ∃f g,q01 e n o [I64 f,.int .u64 g]∧
 ∃c,q01 e d 0 (vecL .i64 c 65 0)∧
 ST e a 0 [I64 r1] fun k=>
 q01 k d 0 (vecL .i64 c 65 0)∧
 q01 k n o [I64 f,.int .u64 g]∧
 ST k a 1 [I64 f,.int .u64 g] fun af=>
 q01 af d 0 (vecL .i64 c 65 0)∧
 ST af a 7 (vecL .i64 c 65 0) fun l=>
 ∃i,q00 l a 3=some (I64 i)∧
 ∃j,q00 l a 4=some (I64 j)∧
 ST l a 3 [I64 (if b < i then b else i)] fun ai=>
 ST ai a 4 [I64 (if b > j then b else j)] fun ag=>
 ∃p q r s t u v w,q01 ag a 0 ([I64 p,I64 q,.int .u64 r,I64 s,I64 t,I64 u,I64 v]++vecL .i64 w 65 0)∧
 ST ag m 0 ([I64 p,I64 q,.int .u64 r,I64 s,I64 t,I64 u,I64 v]++vecL .i64 w 65 0) fun ah=>
 ∃x y z aa ab ac ad ae,q01 ah m 0 ([I64 x,I64 y,.int .u64 z,I64 aa,I64 ab,I64 ac,I64 ad]++vecL .i64 ae 65 0)∧
 K (.tuple #[.agg ⟨[I64 x,I64 y,.int .u64 z,I64 aa,I64 ab,I64 ac,I64 ad]++vecL .i64 ae 65 0⟩,I64 0]) ah
def q70.r2 (c:Int)(K:KT)(a b:Nat)(r1 ad:Int)(ae af:Nat)(e:Heap):Prop:=
 IF (!decide (ad=0)) (
 ST e b 0 ([I64 0,I64 0,.int .u64 0,I64 0,I64 0,I64 0,I64 0]++vecL .i64 Z0 65 0) fun aa=>
 ∃g i j k l m n o,q01 aa b 0 ([I64 g,I64 i,.int .u64 j,I64 k,I64 l,I64 m,I64 n]++vecL .i64 o 65 0)∧
 K (.tuple #[.agg ⟨[I64 g,I64 i,.int .u64 j,I64 k,I64 l,I64 m,I64 n]++vecL .i64 o 65 0⟩,I64 12]) aa) (
 ∃p,q01 e a 7 (vecL .i64 p 65 0)∧
 CF 263 #[.agg ⟨vecL .i64 p 65 0⟩,I64 c] e fun ag ah=>∃r3 r4,ag=(.tuple #[.agg ⟨vecL .i64 r3 65 0⟩,I64 r4])∧
 AL ah (vecL .i64 Z0 65 0) 60 fun ab ai=>
 ST ai ab 0 (vecL .i64 r3 65 0) fun d=>
 IF (!decide (r4=0)) (
 ST d b 0 ([I64 0,I64 0,.int .u64 0,I64 0,I64 0,I64 0,I64 0]++vecL .i64 Z0 65 0) fun ac=>
 ∃q r s t u v w x,q01 ac b 0 ([I64 q,I64 r,.int .u64 s,I64 t,I64 u,I64 v,I64 w]++vecL .i64 x 65 0)∧
 K (.tuple #[.agg ⟨[I64 q,I64 r,.int .u64 s,I64 t,I64 u,I64 v,I64 w]++vecL .i64 x 65 0⟩,I64 12]) ac) (
 ∃y,q00 d a 0=some (I64 y)∧
 ∀f:Heap→Prop,(∀z,q70.r1 c K a b r1 ae af ab z→f z)→
 IF (decide (y=0)) (
 ST d a 3 [I64 c] fun aj=>
 ST aj a 4 [I64 c] fun ak=>
 f ak) (
 f d)))
def q70.code (c0 a8 a9 ba bb bc bd:Int)(be:Nat→Int)(g:Int)(H:Heap)(K:KT):Prop:=
 AL H ([I64 c0,I64 a8,.int .u64 a9,I64 ba,I64 bb,I64 bc,I64 bd]++vecL .i64 be 65 0) 62 fun c bf=>
 AL bf ([I64 0,I64 0,.int .u64 0,I64 0,I64 0,I64 0,I64 0]++vecL .i64 Z0 65 0) 62 fun e az=>
 ∃o p q r s t u v,q01 az c 0 ([I64 o,I64 p,.int .u64 q,I64 r,I64 s,I64 t,I64 u]++vecL .i64 v 65 0)∧
 CF 25 #[.agg ⟨[I64 o,I64 p,.int .u64 q,I64 r,I64 s,I64 t,I64 u]++vecL .i64 v 65 0⟩] az fun bg d=>∃w,bg=(.bool w)∧
 IF (!w) (
 ST d e 0 ([I64 0,I64 0,.int .u64 0,I64 0,I64 0,I64 0,I64 0]++vecL .i64 Z0 65 0) fun a0=>
 ∃x y z aa ab ac ad ae,q01 a0 e 0 ([I64 x,I64 y,.int .u64 z,I64 aa,I64 ab,I64 ac,I64 ad]++vecL .i64 ae 65 0)∧
 K (.tuple #[.agg ⟨[I64 x,I64 y,.int .u64 z,I64 aa,I64 ab,I64 ac,I64 ad]++vecL .i64 ae 65 0⟩,I64 10]) a0) (
 ∃af,q00 d c 0=some (I64 af)∧
 ∃r1 r2,CQ 187 #[I64 af,I64 1] d (.tuple #[I64 r1,I64 r2])∧
 IF (!decide (r2=0)) (
 ST d e 0 ([I64 0,I64 0,.int .u64 0,I64 0,I64 0,I64 0,I64 0]++vecL .i64 Z0 65 0) fun a1=>
 ∃ag ah ai aj ak al am an,q01 a1 e 0 ([I64 ag,I64 ah,.int .u64 ai,I64 aj,I64 ak,I64 al,I64 am]++vecL .i64 an 65 0)∧
 K (.tuple #[.agg ⟨[I64 ag,I64 ah,.int .u64 ai,I64 aj,I64 ak,I64 al,I64 am]++vecL .i64 an 65 0⟩,I64 12]) a1) (
 ∀f:Int→Nat→Nat→Heap→Prop,(∀(l:Int) (m:Nat) (n:Nat),∀ay:Heap,q70.r2 g K c e r1 l m n ay→f l m n ay)→
 ∃a b,q01 d c 1 [I64 a,.int .u64 b]∧
 (CF 77 #[I64 g] d fun bh k=>∃i j,bh=(.agg #[I64 i,.int .u64 j])∧
 q01 k c 1 [I64 a,.int .u64 b]∧
 (CF 262 #[.agg #[I64 a,.int .u64 b],.agg #[I64 i,.int .u64 j]] k fun bi bj=>∃ao ap r5,bi=(.tuple #[.agg #[I64 ao,.int .u64 ap],I64 r5])∧
 AL bj [I64 0,.int .u64 0] 58 fun a2 bk=>
 ST bk a2 0 [I64 ao,.int .u64 ap] fun bl=>
 f r5 a2 0 bl)∧
 (AL k [I64 0,.int .u64 0] 58 fun a3 a4=>
 q01 a4 c 1 [I64 a,.int .u64 b]∧
 CF 262 #[.agg #[I64 a,.int .u64 b],.agg #[I64 i,.int .u64 j]] a4 fun bm bn=>∃aq ar r6,bm=(.tuple #[.agg #[I64 aq,.int .u64 ar],I64 r6])∧
 ST bn a3 0 [I64 aq,.int .u64 ar] fun bo=>
 f r6 a3 0 bo))∧
 (AL d [I64 0,.int .u64 0] 58 fun a5 a6=>
 q01 a6 c 1 [I64 a,.int .u64 b]∧
 CF 77 #[I64 g] a6 fun bp a7=>∃au av,bp=(.agg #[I64 au,.int .u64 av])∧
 q01 a7 c 1 [I64 a,.int .u64 b]∧
 CF 262 #[.agg #[I64 a,.int .u64 b],.agg #[I64 au,.int .u64 av]] a7 fun bq br=>∃aw ax r7,bq=(.tuple #[.agg #[I64 aw,.int .u64 ax],I64 r7])∧
 ST br a5 0 [I64 aw,.int .u64 ax] fun bs=>
 f r7 a5 0 bs)))
theorem q70.call {a b c d e f g i j H K:_}(hK:q70.code a b c d e f g i j H K):CF 225 ⟨[.agg ⟨[I64 a,I64 b,.int .u64 c,I64 d,I64 e,I64 f,I64 g]++vecL .i64 i 65 0⟩,I64 j]⟩ H K:=
 cE Tryz.func225 (.r (.seq (.r (.cond (.r .no) .no)) (.r (.seq (.r (.cond (.r .no) .no)) (.seq (.regJ [(7,.one (.int .i64)),(8,.one (.adr))]) (.seq (.r (.cond (.r .no) .no)) (.r (.seq (.r (.cond (.r .no) .no)) (.seq (.r (.condJ [] .reg .no)) (.r (.r (.r .no)))))))))))) hK
def q78.r1 (K:KT)(ah b:Nat)(a:Option Addr)(c:Heap):Prop:=
 NN a (
 ∃d,q00 c (adrB a) (adrO a)=some (I64 d)∧
 IF (decide (d=9223372036854775807)) (
 ST c b 0 ([I64 0,I64 0,.int .u64 0,I64 0,I64 0,I64 0,I64 0]++vecL .i64 Z0 65 0) fun ae=>
 ∃e f g i j k l m,q01 ae b 0 ([I64 e,I64 f,.int .u64 g,I64 i,I64 j,I64 k,I64 l]++vecL .i64 m 65 0)∧
 K (.tuple #[.agg ⟨[I64 e,I64 f,.int .u64 g,I64 i,I64 j,I64 k,I64 l]++vecL .i64 m 65 0⟩,I64 12]) ae) (
 NN a (
 ∃n,q00 c (adrB a) (adrO a)=some (I64 n)∧
 NN a (
 ST c (adrB a) (adrO a) [I64 (i64.wrap (n+1))] fun af=>
 ∃o p q r s t u v,q01 af ah 0 ([I64 o,I64 p,.int .u64 q,I64 r,I64 s,I64 t,I64 u]++vecL .i64 v 65 0)∧
 ST af b 0 ([I64 o,I64 p,.int .u64 q,I64 r,I64 s,I64 t,I64 u]++vecL .i64 v 65 0) fun ag=>
 ∃w x y z aa ab ac ad,q01 ag b 0 ([I64 w,I64 x,.int .u64 y,I64 z,I64 aa,I64 ab,I64 ac]++vecL .i64 ad 65 0)∧
 K (.tuple #[.agg ⟨[I64 w,I64 x,.int .u64 y,I64 z,I64 aa,I64 ab,I64 ac]++vecL .i64 ad 65 0⟩,I64 0]) ag))))
def q78.code (c0 aa ab ac ad ae af:Int)(ag:Nat→Int)(ah:Bool)(H:Heap)(K:KT):Prop:=
 AL H ([I64 c0,I64 aa,.int .u64 ab,I64 ac,I64 ad,I64 ae,I64 af]++vecL .i64 ag 65 0) 62 fun a ai=>
 AL ai ([I64 0,I64 0,.int .u64 0,I64 0,I64 0,I64 0,I64 0]++vecL .i64 Z0 65 0) 62 fun c y=>
 ∃f g i j k l m n,q01 y a 0 ([I64 f,I64 g,.int .u64 i,I64 j,I64 k,I64 l,I64 m]++vecL .i64 n 65 0)∧
 CF 25 #[.agg ⟨[I64 f,I64 g,.int .u64 i,I64 j,I64 k,I64 l,I64 m]++vecL .i64 n 65 0⟩] y fun aj d=>∃o,aj=(.bool o)∧
 IF (!o) (
 ST d c 0 ([I64 0,I64 0,.int .u64 0,I64 0,I64 0,I64 0,I64 0]++vecL .i64 Z0 65 0) fun z=>
 ∃p q r s t u v w,q01 z c 0 ([I64 p,I64 q,.int .u64 r,I64 s,I64 t,I64 u,I64 v]++vecL .i64 w 65 0)∧
 K (.tuple #[.agg ⟨[I64 p,I64 q,.int .u64 r,I64 s,I64 t,I64 u,I64 v]++vecL .i64 w 65 0⟩,I64 10]) z) (
 ∀b:(Option Addr)→Heap→Prop,(∀(e:Option Addr),∀x:Heap,q78.r1 K a c e x→b e x)→
 IF ah (
 b (some ⟨a,5,none⟩) d) (
 b (some ⟨a,6,none⟩) d))
theorem q78.call {a b c d e f g i j H K:_}(hK:q78.code a b c d e f g i j H K):CF 222 ⟨[.agg ⟨[I64 a,I64 b,.int .u64 c,I64 d,I64 e,I64 f,I64 g]++vecL .i64 i 65 0⟩,.bool j]⟩ H K:=
 cE Tryz.func222 (.r (.seq (.r (.cond (.r .no) .no)) (.r (.seq (.r (.condJ [(6,.one (.ptr))] .reg .no)) (.seq (.r (.cond (.r .no) .no)) (.r (.r .no))))))) hK
def q36.r1 (e:Int→Int→Heap→Prop)(b:Int→Int→Heap→Nat)(f a:Int)(g:Heap)(c:Int)(d:Heap):Prop:=
 e c (i64.wrap (a+1)) d∧b c (i64.wrap (a+1)) d < b f a g
def q36.l2 (e f:Nat)(g w:Int)(x:ByteArray)(K:KT)(y:Int→Int→Heap→Prop)(z:Int→Int→Heap→Nat)(b c:Int)(a:Heap):Prop:=
 IF (decide (c < (i64.wrap ((i64.wrap (u64.wrap ((u64.wrap w) - (u64.wrap g))))+1)))) (
 ∃i,q00 a e (f+1)=some (.map i)∧
 ∃j k l m n o p q,∃u:Bool,q09 Tryz.prog (Instr.lookup 198 (.map i) (.agg #[I64 (i64.wrap (g+c)),.string x]) true) a (.tuple #[.agg ⟨[I64 j,I64 k,.int .u64 l,I64 m,I64 n,I64 o,I64 p]++vecL .i64 q 65 0⟩,.bool u])∧
 AL a ([I64 0,I64 0,.int .u64 0,I64 0,I64 0,I64 0,I64 0]++vecL .i64 Z0 65 0) 62 fun aa ab=>
 ST ab aa 0 ([I64 j,I64 k,.int .u64 l,I64 m,I64 n,I64 o,I64 p]++vecL .i64 q 65 0) fun v=>
 ∀d:Int→Heap→Prop,(∀r s,q36.r1 y z b c a r s→d r s)→
 IF (!u) (
 d (i64.wrap (b+1)) v) (
 d b v)) (
 ∃t,q00 a e f=some (I64 t)∧
 K (.bool (decide (b≤t))) a)
def q36.code (a b:Nat)(c d:Int)(m:ByteArray)(H:Heap)(K:KT):Prop:=
 IF (decide (d < c)) (
 K (.bool false) H) (
 ∃i,q00 H a b=some (I64 i)∧
 IF (decide ((u64.wrap i)≤(u64.wrap ((u64.wrap d) - (u64.wrap c))))) (
 K (.bool false) H) (
 ∃j,q00 H a (b+1)=some (.map j)∧
 ∃k:Int,q09 Tryz.prog (Builtin.len_ #[198] 3 #[.map j]) H (.int .i64 k)∧
 ∃(e:Int→Int→Heap→Prop) (n:Int→Int→Heap→Nat),e k 0 H∧
 ∀(f:Int) (g:Int),∀l:Heap,e f g l→q36.l2 a b c d m K e n f g l))
theorem q36.call {a b c d e H K:_}(hK:q36.code a b c d e H K):CF 221 ⟨[PA a b,I64 c,I64 d,.string e]⟩ H K:=
 cE Tryz.func221 (.r (.seq (.r (.cond (.r .no) .no)) (.r (.seq (.r (.cond (.r .no) .no)) (.r (.seq (.r (.blk (.loop [(10,.one (.int .i64)),(37,.one (.int .i64))] (.r (.seq (.cond .no .no) (.seq (.blk (.r (.r (.r (.condJ [(10,.one (.int .i64))] .reg .no))))) .reg)))))) (.r .no))))))) hK
def q0y.y1 (d:Nat)(a:Heap)(b:Loop)(s:List Value)(e:Heap)(K_:Value→Heap→Prop):Prop:=
 ∃f g,s=[.agg #[I64 f,.string g]]∧
 e[a.size+1]?=some (.loop b)∧
 AL e [I64 0,(.string (⟨#[]⟩:ByteArray))] 55 fun p t=>
 ST t p 0 [I64 f,.string g] fun q=>
 q[a.size+1]?=some (.loop b)∧
 ∀c,c=q0q q (a.size+1) { b with state:=.busy }→
 ∃i j k,q00 c d 0=some (.slice i j k)∧
 ∃c0 l,q01 c p 0 [I64 c0,.string l]∧
 AL c [I64 c0,.string l] 55 fun u v=>
 RunW Tryz.prog (Builtin.append_ #[225,225] 225 #[.slice i j k,.slice (some ⟨u,0,none⟩) 1 1]) v fun w x=>
 ∃m n o,w=(.slice m n o)∧
 ST x d 0 [.slice m n o] fun r=>
 r[a.size+1]?=some (.loop { b with state:=.busy })∧K_ (.bool true) (q0q r (a.size+1) b)
def q0y.code (o:Option Addr)(p q:Nat)(e:FuncId)(r:List Value)(H:Heap)(K:KT):Prop:=
 AL H [.slice o p q] 225 fun m a=>
 memN e X.calls=true∧
 ∀b:Loop,b.state=.ready→b.pending=none→
 (∀(f:List Value) (g:Heap) (K_:Value→Heap→Prop),q0y.y1 m a b f g K_→q33 Tryz.prog (a.size+1) f g K_)→
 CF e ⟨(.func (.yield (a.size+1)) #[] #[])::r⟩ ((a.push (.deferred (some []))).push (.loop b)) fun s n=>∃(i:LoopState) (d:Option Code),i≠.busy∧n[a.size+1]?=some (.loop { b with state:=i,pending:=d })∧
 ∀c,c=q0q n (a.size+1) { b with state:=.exhausted,pending:=d }→
 d=none∧
 ∃j k l,q00 c m 0=some (.slice j k l)∧
 c[a.size]?=some (.deferred (some []))∧
 K (.slice j k l) (c.setIfInBounds a.size (.deferred none))
theorem q0y.call {a b c d e H K:_}(hK:q0y.code a b c d e H K):CF 214 ⟨[.slice a b c,.func (.func d) #[] ⟨e⟩]⟩ H K:=
 cE Tryz.func214 (.r (.seq (.r (.blk (.rng [.agg [.int .i64,.str]] [none] .reg (.blk .reg)))) (.r .no))) hK
def qaa.code (g i:Nat)(ap:Int)(aq:ByteArray)(ar:Int)(H:Heap)(K:KT):Prop:=
 AL H [I64 ap,.string aq] 55 fun t d=>
 ∃b,q00 d g (i+1)=some (.map b)∧
 ∃c0 c,q01 d t 0 [I64 c0,.string c]∧
 ∃j k l m n o p q,∃s:Bool,q09 Tryz.prog (Instr.lookup 198 (.map b) (.agg #[I64 c0,.string c]) true) d (.tuple #[.agg ⟨[I64 j,I64 k,.int .u64 l,I64 m,I64 n,I64 o,I64 p]++vecL .i64 q 65 0⟩,.bool s])∧
 AL d ([I64 0,I64 0,.int .u64 0,I64 0,I64 0,I64 0,I64 0]++vecL .i64 Z0 65 0) 62 fun e f=>
 q09 Tryz.prog (Instr.lookup 198 (.map b) (.agg #[I64 c0,.string c]) true) f (.tuple #[.agg ⟨[I64 j,I64 k,.int .u64 l,I64 m,I64 n,I64 o,I64 p]++vecL .i64 q 65 0⟩,.bool s])∧
 q01 f t 0 [I64 c0,.string c]∧
 q00 f g (i+1)=some (.map b)∧
 ST f e 0 ([I64 j,I64 k,.int .u64 l,I64 m,I64 n,I64 o,I64 p]++vecL .i64 q 65 0) fun u=>
 IF (!s) (
 K (I64 19) u) (
 ∃v w x y z aa ab ac,q01 u e 0 ([I64 v,I64 w,.int .u64 x,I64 y,I64 z,I64 aa,I64 ab]++vecL .i64 ac 65 0)∧
 CF 225 #[.agg ⟨[I64 v,I64 w,.int .u64 x,I64 y,I64 z,I64 aa,I64 ab]++vecL .i64 ac 65 0⟩,I64 ar] u fun au av=>∃ad r1 r2 r3 r4 r5 r6 r7 r,au=(.tuple #[.agg ⟨[I64 ad,I64 r1,.int .u64 r2,I64 r3,I64 r4,I64 r5,I64 r6]++vecL .i64 r7 65 0⟩,I64 r])∧
 ST av e 0 ([I64 ad,I64 r1,.int .u64 r2,I64 r3,I64 r4,I64 r5,I64 r6]++vecL .i64 r7 65 0) fun a=>
 IF (!decide (r=0)) (
 K (I64 r) a) (
 ∃ae,q00 a g (i+1)=some (.map ae)∧
 ∃af ag,q01 a t 0 [I64 af,.string ag]∧
 ∃ah ai aj ak al am an ao,q01 a e 0 ([I64 ah,I64 ai,.int .u64 aj,I64 ak,I64 al,I64 am,I64 an]++vecL .i64 ao 65 0)∧
 RunW Tryz.prog (Instr.mapUpdate 198 (.map ae) (.agg #[I64 af,.string ag]) (.agg ⟨[I64 ah,I64 ai,.int .u64 aj,I64 ak,I64 al,I64 am,I64 an]++vecL .i64 ao 65 0⟩)) a fun ax aw=>
 K (I64 0) aw))
theorem qaa.call {a b c d e H K:_}(hK:qaa.code a b c d e H K):CF 194 ⟨[PA a b,.agg #[I64 c,.string d],I64 e]⟩ H K:=
 cE Tryz.func194 (.r (.r (.seq (.r (.cond (.r .no) .no)) (.r (.seq (.r (.cond (.r .no) .no)) (.r (.r .no))))))) hK
def q24.r1 (K:KT)(v:(Option Addr)→Nat→Nat→Int→Heap→Prop)(f:(Option Addr)→Nat→Nat→Int→Heap→Nat)(g:Option Addr)(i j:Nat)(b:Int)(w:Heap)(x y z:Nat)(k:Int)(a:Heap):Prop:=
 IF (!decide (k=0)) (
 K (I64 k) a) (
 ∃c0 l,q01 a x 0 [I64 c0,.string l]∧
 ∃m n o p q r s t,q01 a y z ([I64 m,I64 n,.int .u64 o,I64 p,I64 q,I64 r,I64 s]++vecL .i64 t 65 0)∧
 AL a ([I64 c0,.string l,I64 m,I64 n,.int .u64 o,I64 p,I64 q,I64 r,I64 s]++vecL .i64 t 65 0) 64 fun aa ab=>
 RunW Tryz.prog (Builtin.append_ #[86,86] 86 #[.slice g i j,.slice (some ⟨aa,0,none⟩) 1 1]) ab fun ac u=>
 ∃c d e,ac=(.slice c d e)∧
 v c d e (i64.wrap (b+1)) u∧f c d e (i64.wrap (b+1)) u < f g i j b w)
def q24.l2 (af ag:Nat)(K:KT)(ah:Option Addr)(e:Nat)(ai:Int→Heap→Prop)(f:Int→Heap→Nat)(a:Int)(b:Heap):Prop:=
 IF (decide (a < (e:Int))) (
 ((0:Int)≤a∧a < (e:Int))∧∃ac ad:Nat,(ah=some ⟨ac,ad,none⟩)∧
 ∃g i j k l m n o p q,q01 b ac (ad+a.toNat*74) ([I64 g,.string i,I64 j,I64 k,.int .u64 l,I64 m,I64 n,I64 o,I64 p]++vecL .i64 q 65 0)∧
 AL b ([I64 0,(.string (⟨#[]⟩:ByteArray)),I64 0,I64 0,.int .u64 0,I64 0,I64 0,I64 0,I64 0]++vecL .i64 Z0 65 0) 64 fun d aj=>
 ST aj d 0 ([I64 g,.string i,I64 j,I64 k,.int .u64 l,I64 m,I64 n,I64 o,I64 p]++vecL .i64 q 65 0) fun c=>
 ∃r,q00 c af (ag+1)=some (.map r)∧
 ∃s t,q01 c d 0 [I64 s,.string t]∧
 ∃u v w x y z aa ab,q01 c d 2 ([I64 u,I64 v,.int .u64 w,I64 x,I64 y,I64 z,I64 aa]++vecL .i64 ab 65 0)∧
 RunW Tryz.prog (Instr.mapUpdate 198 (.map r) (.agg #[I64 s,.string t]) (.agg ⟨[I64 u,I64 v,.int .u64 w,I64 x,I64 y,I64 z,I64 aa]++vecL .i64 ab 65 0⟩)) c fun ak ae=>
 ai (i64.wrap (a+1)) ae∧f (i64.wrap (a+1)) ae < f a b) (
 K (I64 0) b)
def q24.l3 (q r:Nat)(b s:Int)(au:ByteArray)(K:KT)(av:(Option Addr)→Nat→Nat→Int→Heap→Prop)(aw:(Option Addr)→Nat→Nat→Int→Heap→Nat)(x:Option Addr)(y ax:Nat)(t:Int)(u:Heap):Prop:=
 IF (decide (t < (i64.wrap ((i64.wrap (s - b))+1)))) (
 AL u [I64 0,(.string (⟨#[]⟩:ByteArray))] 55 fun o az=>
 ST az o 0 [I64 (i64.wrap (b+t)),.string au] fun a=>
 ∀w:Nat→Nat→Int→Heap→Prop,(∀(z:Nat) (aa:Nat) (ab:Int),∀ap:Heap,q24.r1 K av aw x y ax t u o z aa ab ap→w z aa ab ap)→
 ∃c,q00 a q (r+1)=some (.map c)∧
 ∃d e,q01 a o 0 [I64 d,.string e]∧
 ∃f g i j k l m n,q09 Tryz.prog (Instr.lookup 198 (.map c) (.agg #[I64 d,.string e]) false) a (.agg ⟨[I64 f,I64 g,.int .u64 i,I64 j,I64 k,I64 l,I64 m]++vecL .i64 n 65 0⟩)∧
 (CF 222 #[.agg ⟨[I64 f,I64 g,.int .u64 i,I64 j,I64 k,I64 l,I64 m]++vecL .i64 n 65 0⟩,.bool (decide (b=s))] a fun a0 a1=>∃ac r1 r2 r3 r4 r5 r6 r7 ad,a0=(.tuple #[.agg ⟨[I64 ac,I64 r1,.int .u64 r2,I64 r3,I64 r4,I64 r5,I64 r6]++vecL .i64 r7 65 0⟩,I64 ad])∧
 AL a1 ([I64 0,I64 0,.int .u64 0,I64 0,I64 0,I64 0,I64 0]++vecL .i64 Z0 65 0) 62 fun aq a2=>
 ST a2 aq 0 ([I64 ac,I64 r1,.int .u64 r2,I64 r3,I64 r4,I64 r5,I64 r6]++vecL .i64 r7 65 0) fun a3=>
 w aq 0 ad a3)∧
 (AL a ([I64 0,I64 0,.int .u64 0,I64 0,I64 0,I64 0,I64 0]++vecL .i64 Z0 65 0) 62 fun ar p=>
 q09 Tryz.prog (Instr.lookup 198 (.map c) (.agg #[I64 d,.string e]) false) p (.agg ⟨[I64 f,I64 g,.int .u64 i,I64 j,I64 k,I64 l,I64 m]++vecL .i64 n 65 0⟩)∧
 q01 p o 0 [I64 d,.string e]∧
 q00 p q (r+1)=some (.map c)∧
 CF 222 #[.agg ⟨[I64 f,I64 g,.int .u64 i,I64 j,I64 k,I64 l,I64 m]++vecL .i64 n 65 0⟩,.bool (decide (b=s))] p fun a4 a5=>∃ae af ag ah ai aj ak al am,a4=(.tuple #[.agg ⟨[I64 ae,I64 af,.int .u64 ag,I64 ah,I64 ai,I64 aj,I64 ak]++vecL .i64 al 65 0⟩,I64 am])∧
 ST a5 ar 0 ([I64 ae,I64 af,.int .u64 ag,I64 ah,I64 ai,I64 aj,I64 ak]++vecL .i64 al 65 0) fun a6=>
 w ar 0 am a6)) (
 ∃(v:Int→Heap→Prop) (ay:Int→Heap→Nat),v 0 u∧
 ∀an ao,v an ao→q24.l2 q r K x y v ay an ao)
def q24.code (d e:Nat)(a b:Int)(f:ByteArray)(H:Heap)(K:KT):Prop:=
 IF (decide (b < a)) (
 K (I64 10) H) (
 CF 221 #[PA d e,I64 a,I64 b,.string f] H fun p n=>∃l,p=(.bool l)∧
 IF (!l) (
 K (I64 20) n) (
 ∃(c:(Option Addr)→Nat→Nat→Int→Heap→Prop) (o:(Option Addr)→Nat→Nat→Int→Heap→Nat),c none 0 0 0 n∧
 ∀(g:Option Addr) (i:Nat) (j:Nat) (k:Int),∀m:Heap,c g i j k m→q24.l3 d e a b f K c o g i j k m))
theorem q24.call {a b c d e H K:_}(hK:q24.code a b c d e H K):CF 192 ⟨[PA a b,I64 c,I64 d,.string e]⟩ H K:=
 cE Tryz.func192 (.r (.seq (.r (.cond (.r .no) .no)) (.seq (.r (.cond (.r .no) .no)) (.r (.seq (.r (.blk (.loop [(9,.one (.slice)),(29,.one (.int .i64))] (.r (.seq (.cond .no .no) (.seq (.blk (.r (.r (.seq (.regJ [(12,.one (.adr)),(13,.one (.int .i64))]) (.seq (.r (.cond (.r .no) .no)) .reg))))) .reg)))))) (.seq (.r (.blk (.loop [(62,.one (.int .i64))] (.r (.seq (.cond .no .no) (.seq (.blk (.r .reg)) .reg)))))) (.r .no))))))) hK
def q6e.l1 (K:KT)(e:Nat)(c:Option Addr)(d p:Nat)(q:Int→Heap→Prop)(f:Int→Heap→Nat)(a:Int)(b:Heap):Prop:=
 IF (decide (a < 8)) (
 ∃g,q00 b e 0=some (I64 g)∧
 ((0:Int)≤(i64.wrap (8*a)))∧
 ((0:Int)≤(i64.wrap (7 - a))∧(i64.wrap (7 - a)) < (d:Int))∧∃j k:Nat,(c=some ⟨j,k,none⟩)∧
 ST b j (k+(i64.wrap (7 - a)).toNat) [.int .u8 (u8.wrap (Int.fdiv (u64.wrap g) (2 ^ (min (Int.toNat (i64.wrap (8*a))) (u64.bits)))))] fun n=>
 ∃i,q00 n e 1=some (.int .u64 i)∧
 ((0:Int)≤(i64.wrap (8*a)))∧
 ((0:Int)≤(i64.wrap (15 - a))∧(i64.wrap (15 - a)) < (d:Int))∧∃l m:Nat,(c=some ⟨l,m,none⟩)∧
 ST n l (m+(i64.wrap (15 - a)).toNat) [.int .u8 (u8.wrap (Int.fdiv i (2 ^ (min (Int.toNat (i64.wrap (8*a))) (u64.bits)))))] fun o=>
 q (i64.wrap (a+1)) o∧f (i64.wrap (a+1)) o < f a b) (
 K (.slice c d p) b)
def q6e.code (g i:Int)(H:Heap)(K:KT):Prop:=
 AL H [I64 g,.int .u64 i] 58 fun k l=>
 RunW Tryz.prog (Instr.makeSlice 24 (I64 16) (I64 16)) l fun m n=>
 ∃b c d,m=(.slice b c d)∧
 ∃(a:Int→Heap→Prop) (j:Int→Heap→Nat),a 0 n∧
 ∀e f,a e f→q6e.l1 K k b c d a j e f
theorem q6e.call {a b H K:_}(hK:q6e.code a b H K):CF 184 ⟨[.agg #[I64 a,.int .u64 b]]⟩ H K:=
 cE Tryz.func184 (.r (.r (.seq (.r (.blk (.loop [(6,.one (.int .i64))] (.r (.seq (.cond .no .no) (.seq (.blk (.r (.r .reg))) .reg)))))) (.r .no)))) hK
def q1q.l1 (g:Nat)(K:KT)(c:Nat)(i:Heap→Prop)(b:Heap→Nat)(d:Heap):Prop:=
 RunW Tryz.prog (Instr.next (PA c 0) false 0) d fun r a=>
 (r=(.tuple #[.bool false])∧
 IF false (
 ∃j k,∃w,q09 Tryz.prog (Instr.entry (PA c 0)) a (.tuple #[.agg #[I64 j,.string k],w])∧
 AL a [I64 0,(.string (⟨#[]⟩:ByteArray))] 55 fun s aa=>
 ST aa s 0 [I64 j,.string k] fun t=>
 ∃c0 l,q01 t s 0 [I64 c0,.string l]∧
 q33 Tryz.prog g [.agg #[I64 c0,.string l]] t fun ab e=>∃m,ab=(.bool m)∧
 IF (!m) (
 K (.tuple #[]) e) (
 i e∧b e < b d)) (
 K (.tuple #[]) a))∨
 (∃y z:Value,r=(.tuple #[.bool true,y,z])∧
 IF true (
 ∃n o,∃x,q09 Tryz.prog (Instr.entry (PA c 0)) a (.tuple #[.agg #[I64 n,.string o],x])∧
 AL a [I64 0,(.string (⟨#[]⟩:ByteArray))] 55 fun u ac=>
 ST ac u 0 [I64 n,.string o] fun v=>
 ∃p q,q01 v u 0 [I64 p,.string q]∧
 q33 Tryz.prog g [.agg #[I64 p,.string q]] v fun ad f=>∃r1,ad=(.bool r1)∧
 IF (!r1) (
 K (.tuple #[]) f) (
 i f∧b f < b d)) (
 K (.tuple #[]) a))
def q1q.code (e f g:Nat)(H:Heap)(K:KT):Prop:=
 ∃b,q00 H f g=some (.map b)∧
 RunW Tryz.prog (Instr.range 198 (.map b)) H fun j k=>
 ∃c:Nat,j=.pointer (some ⟨c,0,none⟩)∧
 ∃(a:Heap→Prop) (i:Heap→Nat),a k∧
 ∀d:Heap,a d→q1q.l1 e K c a i d
theorem q1q.call {a b c H K:_}(hK:q1q.code a b c H K):CF 181 ⟨[.func (.yield a) #[] #[],PA b c]⟩ H K:=
 qdp (X:=(X.nx [(8,.agg [.int .i64,.str],.one (.raw))])) (an:=(.r (.blk (.loop [] (.r (.seq (.cond .no .no) (.blk (.r (.r (.cond .no .no)))))))))) X_P qmf qcn Tryz.func181 (by kernel_rfl) hK
def q3t.code (d:FuncId)(e:List Value)(H:Heap)(K:KT):Prop:=
 CF 214 #[.slice none 0 0,.func (.func d) #[] ⟨e⟩] H fun f g=>∃a b c,f=(.slice a b c)∧
 K (.slice a b c) g
theorem q3t.call {a b H K:_}(hK:q3t.code a b H K):CF 179 ⟨[.func (.func a) #[] ⟨b⟩]⟩ H K:=
 cE Tryz.func179 (.r (.r .no)) hK
def q89.l1 (g:Option Addr)(i:Nat)(K:KT)(j:Nat)(s:Int→Int→Int→Heap→Prop)(k:Int→Int→Int→Heap→Nat)(c d a:Int)(b:Heap):Prop:=
 IF (decide (a < 8)) (
 ((0:Int)≤8)∧
 ((0:Int)≤a∧a < (i:Int))∧∃n o:Nat,(g=some ⟨n,o,none⟩)∧
 ∃e,q00 b n (o+a.toNat)=some (.int .u8 e)∧
 ((0:Int)≤8)∧
 ((0:Int)≤(i64.wrap (8+a))∧(i64.wrap (8+a)) < (i:Int))∧∃p q:Nat,(g=some ⟨p,q,none⟩)∧
 ∃f,q00 b p (q+(i64.wrap (8+a)).toNat)=some (.int .u8 f)∧
 s (q0d .or .u64 (u64.wrap (c*2 ^ (min (Int.toNat 8) (u64.bits)))) (u64.wrap e)) (q0d .or .u64 (u64.wrap (d*2 ^ (min (Int.toNat 8) (u64.bits)))) (u64.wrap f)) (i64.wrap (a+1)) b∧k (q0d .or .u64 (u64.wrap (c*2 ^ (min (Int.toNat 8) (u64.bits)))) (u64.wrap e)) (q0d .or .u64 (u64.wrap (d*2 ^ (min (Int.toNat 8) (u64.bits)))) (u64.wrap f)) (i64.wrap (a+1)) b < k c d a b) (
 ST b j 0 [I64 (i64.wrap c),.int .u64 d] fun r=>
 ∃l m,q01 r j 0 [I64 l,.int .u64 m]∧
 K (.tuple #[.agg #[I64 l,.int .u64 m],.bool true]) r)
def q89.code (m:Option Addr)(c o:Nat)(H:Heap)(K:KT):Prop:=
 AL H [I64 0,.int .u64 0] 58 fun b k=>
 IF (!decide ((c:Int)=16)) (
 ST k b 0 [I64 0,.int .u64 0] fun l=>
 ∃g i,q01 l b 0 [I64 g,.int .u64 i]∧
 K (.tuple #[.agg #[I64 g,.int .u64 i],.bool false]) l) (
 ∃(a:Int→Int→Int→Heap→Prop) (n:Int→Int→Int→Heap→Nat),a 0 0 0 k∧
 ∀(d:Int) (e:Int) (f:Int),∀j:Heap,a d e f j→q89.l1 m c K b a n d e f j)
theorem q89.call {a b c H K:_}(hK:q89.code a b c H K):CF 173 ⟨[.slice a b c]⟩ H K:=
 cE Tryz.func173 (.r (.seq (.r (.cond (.r .no) .no)) (.r (.seq (.r (.blk (.loop [(4,.one (.int .u64)),(5,.one (.int .u64)),(11,.one (.int .i64))] (.r (.seq (.cond .no .no) (.seq (.blk (.r (.r .reg))) .reg)))))) (.r .no))))) hK
def q1r.r1 (K:KT)(d:Int→Heap→Prop)(c:Int→Heap→Nat)(a:Int)(e:Heap)(f:Bool)(b:Heap):Prop:=
 IF f (
 K (.tuple #[]) b) (
 d (i64.wrap (a+1)) b∧c (i64.wrap (a+1)) b < c a e)
def q1r.l2 (i:Nat)(K:KT)(j:Nat→Int)(k:Int→Heap→Prop)(l:Int→Heap→Nat)(a:Int)(b:Heap):Prop:=
 IF (decide (a < 65)) (
 ∃c,q5z Tryz.prog (Instr.index 60 (.agg ⟨vecL .i64 j 65 0⟩) (I64 a)) (I64 c)∧
 ∀d:Bool→Heap→Prop,(∀e f,q1r.r1 K k l a b e f→d e f)→
 (((!decide (c=0))=true)→
 q33 Tryz.prog i [I64 a,I64 c] b fun m n=>∃g,m=(.bool g)∧
 d (!g) n)∧
 (¬((!decide (c=0))=true)→
 d false b)) (
 K (.tuple #[]) b)
def q1r.code (e f g:Nat)(H:Heap)(K:KT):Prop:=
 ∃b,q01 H f g (vecL .i64 b 65 0)∧
 ∃(a:Int→Heap→Prop) (i:Int→Heap→Nat),a 0 H∧
 ∀c d,a c d→q1r.l2 e K b a i c d
theorem q1r.call {a b c H K:_}(hK:q1r.code a b c H K):CF 153 ⟨[.func (.yield a) #[] #[],PA b c]⟩ H K:=
 cE Tryz.func153 (.r (.blk (.loop [(6,.one (.int .i64))] (.r (.seq (.cond .no .no) (.seq (.blk (.r (.seq (.regJ [(18,.one (.bool))]) (.cond .no .no)))) .reg)))))) hK
def qab.l1 (s:Option Addr)(e:Nat)(K:KT)(f c:Nat)(t:Int→Heap→Prop)(g:Int→Heap→Nat)(a:Int)(b:Heap):Prop:=
 IF (decide (a < (e:Int))) (
 ((0:Int)≤a∧a < (e:Int))∧∃o p:Nat,(s=some ⟨o,p,none⟩)∧
 ∃d,q00 b o (p+a.toNat)=some (I64 d)∧
 ∃i,q00 b c 1=some (.int .u64 i)∧
 ∃j r1,qj1 Tryz.prog 198 #[.int .u64 i,.int .u64 (u64.wrap d),.int .u64 0] (.tuple #[.int .u64 j,.int .u64 r1])∧
 ∃k,q00 b c 0=some (I64 k)∧
 ((0:Int)≤63)∧
 ST b c 0 [I64 (i64.wrap ((i64.wrap (k+(Int.fdiv d (2 ^ (min (Int.toNat 63) (i64.bits))))))+(i64.wrap r1))),.int .u64 j] fun q=>
 t (i64.wrap (a+1)) q∧g (i64.wrap (a+1)) q < g a b) (
 ∃c0 l,q01 b c 0 [I64 c0,.int .u64 l]∧
 ST b f 0 [I64 c0,.int .u64 l] fun r=>
 ∃m n,q01 r f 0 [I64 m,.int .u64 n]∧
 K (.agg #[I64 m,.int .u64 n]) r)
def qab.code (d:Option Addr)(e l:Nat)(H:Heap)(K:KT):Prop:=
 AL H [I64 0,.int .u64 0] 58 fun g i=>
 AL i [I64 0,.int .u64 0] 58 fun j k=>
 ∃(a:Int→Heap→Prop) (f:Int→Heap→Nat),a 0 k∧
 ∀b c,a b c→qab.l1 d e K g j a f b c
theorem qab.call {a b c H K:_}(hK:qab.code a b c H K):CF 151 ⟨[.slice a b c]⟩ H K:=
 cE Tryz.func151 (.r (.r (.seq (.r (.blk (.loop [(10,.one (.int .i64))] (.r (.seq (.cond .no .no) (.seq (.blk (.r (.r .reg))) .reg)))))) (.r .no)))) hK
def q4y.y1 (aq ar g:Nat)(b:Heap)(c:Loop)(au:List Value)(i:Heap)(K_:Value→Heap→Prop):Prop:=
 ∃j k l m n o p q r s,au=[.agg #[I64 j,.string k],.agg ⟨[I64 l,I64 m,.int .u64 n,I64 o,I64 p,I64 q,I64 r]++vecL .i64 s 65 0⟩]∧
 i[b.size+1]?=some (.loop c)∧
 AL i [I64 0,(.string (⟨#[]⟩:ByteArray))] 55 fun e av=>
 ST av e 0 [I64 j,.string k] fun aw=>
 AL aw ([I64 0,I64 0,.int .u64 0,I64 0,I64 0,I64 0,I64 0]++vecL .i64 Z0 65 0) 62 fun an ax=>
 ST ax an 0 ([I64 l,I64 m,.int .u64 n,I64 o,I64 p,I64 q,I64 r]++vecL .i64 s 65 0) fun ao=>
 ao[b.size+1]?=some (.loop c)∧
 ∀a,a=q0q ao (b.size+1) { c with state:=.busy }→
 ∃t,q00 a e 0=some (I64 t)∧
 ∃u,q00 a ar 0=some (I64 u)∧
 IF (decide (u≤t)) (
 a[b.size+1]?=some (.loop { c with state:=.busy })∧K_ (.bool false) (q0q a (b.size+1) { c with state:=.done,pending:=some (.exit 0) })) (
 ∃v w x,q00 a g 0=some (.slice v w x)∧
 ∃c0 y,q01 a e 0 [I64 c0,.string y]∧
 ∃z aa ab ac ad ae af ag,q01 a an 0 ([I64 z,I64 aa,.int .u64 ab,I64 ac,I64 ad,I64 ae,I64 af]++vecL .i64 ag 65 0)∧
 AL a ([I64 c0,.string y,I64 z,I64 aa,.int .u64 ab,I64 ac,I64 ad,I64 ae,I64 af]++vecL .i64 ag 65 0) 64 fun ay az=>
 RunW Tryz.prog (Builtin.append_ #[86,86] 86 #[.slice v w x,.slice (some ⟨ay,0,none⟩) 1 1]) az fun a0 a1=>
 ∃ah ai aj,a0=(.slice ah ai aj)∧
 ST a1 g 0 [.slice ah ai aj] fun f=>
 ∃d,q00 f aq 0=some (.pointer d)∧
 NN d (
 ∃ak,q00 f (adrB d) ((adrO d)+1)=some (.map ak)∧
 ∃al am,q01 f e 0 [I64 al,.string am]∧
 RunW Tryz.prog (Builtin.delete_ #[198,55] 0 #[.map ak,.agg #[I64 al,.string am]]) f fun a2 ap=>
 ap[b.size+1]?=some (.loop { c with state:=.busy })∧K_ (.bool true) (q0q ap (b.size+1) c)))
def q4y.code (v w:Nat)(x:Int)(H:Heap)(K:KT):Prop:=
 AL H [PA v w] 112 fun s y=>
 AL y [I64 x] 2 fun z aa=>
 AL aa [.slice none 0 0] 86 fun f t=>
 ∃k,q00 t s 0=some (.pointer k)∧
 CF 64 #[.pointer k] t fun ab a=>∃e l,ab=(.func (.func e) #[] ⟨l⟩)∧
 memN e X.calls=true∧
 ∀c:Loop,c.state=.ready→c.pending=none→
 (∀(g:List Value) (i:Heap) (K_:Value→Heap→Prop),q4y.y1 s z f a c g i K_→q33 Tryz.prog (a.size+1) g i K_)→
 CF e ⟨(.func (.yield (a.size+1)) #[] #[])::l⟩ ((a.push (.deferred (some []))).push (.loop c)) fun ac u=>∃(j:LoopState) (d:Option Code),j≠.busy∧u[a.size+1]?=some (.loop { c with state:=j,pending:=d })∧
 ∀b,b=q0q u (a.size+1) { c with state:=.exhausted,pending:=d }→
 ((d=none∧
 ∃m n o,q00 b f 0=some (.slice m n o)∧
 b[a.size]?=some (.deferred (some []))∧
 K (.slice m n o) (b.setIfInBounds a.size (.deferred none)))∨
 d=(some (.exit 0))∧
 ∃p q r,q00 b f 0=some (.slice p q r)∧
 b[a.size]?=some (.deferred (some []))∧
 K (.slice p q r) (b.setIfInBounds a.size (.deferred none)))
theorem q4y.call {a b c H K:_}(hK:q4y.code a b c H K):CF 150 ⟨[PA a b,I64 c]⟩ H K:=
 cE Tryz.func150 (.r (.r (.seq (.r (.blk (.rng [.agg [.int .i64,.str],.agg [.int .i64,.int .i64,.int .u64,.int .i64,.int .i64,.int .i64,.int .i64,.vec .i64 65]] [none,(some (.exit 0))] (.r .reg) (.blk (.seq (.r (.cond .no .no)) (.r .reg)))))) (.r .no)))) hK
def q6f.y1 (e:Nat)(a:Heap)(b:Loop)(p:List Value)(c:Heap)(K_:Value→Heap→Prop):Prop:=
 ∃f g,p=[I64 f,I64 g]∧
 c[a.size+1]?=some (.loop b)∧
 c[a.size+1]?=some (.loop b)∧
 ∀d,d=q0q c (a.size+1) { b with state:=.busy }→
 ∃i j k,q00 d e 0=some (.slice i j k)∧
 AL d [.int .u64 (u64.wrap f),.int .u64 (u64.wrap g)] 56 fun q r=>
 RunW Tryz.prog (Builtin.append_ #[285,285] 285 #[.slice i j k,.slice (some ⟨q,0,none⟩) 2 2]) r fun s t=>
 ∃l m n,s=(.slice l m n)∧
 ST t e 0 [.slice l m n] fun o=>
 o[a.size+1]?=some (.loop { b with state:=.busy })∧K_ (.bool true) (q0q o (a.size+1) b)
def q6f.code (c0 bn bo bp bq br bs:Int)(bt:Nat→Int)(H:Heap)(K:KT):Prop:=
 AL H ([I64 c0,I64 bn,.int .u64 bo,I64 bp,I64 bq,I64 br,I64 bs]++vecL .i64 bt 65 0) 62 fun a bg=>
 ∃o p q r s t u v,q01 bg a 0 ([I64 o,I64 p,.int .u64 q,I64 r,I64 s,I64 t,I64 u]++vecL .i64 v 65 0)∧
 CF 25 #[.agg ⟨[I64 o,I64 p,.int .u64 q,I64 r,I64 s,I64 t,I64 u]++vecL .i64 v 65 0⟩] bg fun bw d=>∃w,bw=(.bool w)∧
 IF (!w) (
 K (.slice none 0 0) d) (
 ∃x,q00 d a 0=some (I64 x)∧
 ∃y,q00 d a 5=some (I64 y)∧
 ∃z,q00 d a 6=some (I64 z)∧
 AL d [.int .u64 (u64.wrap x),.int .u64 (u64.wrap y),.int .u64 (u64.wrap z)] 56 fun bx bz=>
 CF 117 #[.slice (some ⟨bx,0,none⟩) 3 3] bz fun b0 i=>∃aa ab ac,b0=(.slice aa ab ac)∧
 ∃ad,q00 i a 3=some (I64 ad)∧
 ∃ae,q00 i a 4=some (I64 ae)∧
 AL i [I64 ad,I64 ae] 2 fun b1 b2=>
 CF 59 #[.slice (some ⟨b1,0,none⟩) 2 2] b2 fun b3 b4=>∃af ag ah,b3=(.slice af ag ah)∧
 RunW Tryz.prog (Builtin.append_ #[24,24] 24 #[.slice aa ab ac,.slice af ag ah]) b4 fun b5 bh=>
 ∃ai aj ak,b5=(.slice ai aj ak)∧
 ∃al am,q01 bh a 1 [I64 al,.int .u64 am]∧
 CF 184 #[.agg #[I64 al,.int .u64 am]] bh fun b6 bi=>∃an ao ap,b6=(.slice an ao ap)∧
 ∃bf:ByteArray,q09 Tryz.prog (convert 24 9 (.slice an ao ap)) bi (.string bf)∧
 AL bi [.string bf] 9 fun b7 b8=>
 CF 132 #[.slice (some ⟨b7,0,none⟩) 1 1] b8 fun b9 ca=>∃aq ar au,b9=(.slice aq ar au)∧
 RunW Tryz.prog (Builtin.append_ #[24,24] 24 #[.slice ai aj ak,.slice aq ar au]) ca fun cb cc=>
 ∃av aw ax,cb=(.slice av aw ax)∧
 AL cc [.slice none 0 0] 285 fun j bj=>
 ∃ay,q01 bj a 7 (vecL .i64 ay 65 0)∧
 CF 79 #[.agg ⟨vecL .i64 ay 65 0⟩] bj fun cd b=>∃f az,cd=(.func (.func f) #[] ⟨az⟩)∧
 memN f X.calls=true∧
 ∀c:Loop,c.state=.ready→c.pending=none→
 (∀(k:List Value) (l:Heap) (K_:Value→Heap→Prop),q6f.y1 j b c k l K_→q33 Tryz.prog (b.size+1) k l K_)→
 CF f ⟨(.func (.yield (b.size+1)) #[] #[])::az⟩ ((b.push (.deferred (some []))).push (.loop c)) fun cm bk=>∃(m:LoopState) (e:Option Code),m≠.busy∧bk[b.size+1]?=some (.loop { c with state:=m,pending:=e })∧
 ∀g,g=q0q bk (b.size+1) { c with state:=.exhausted,pending:=e }→
 e=none∧
 ∃bu n bv,q00 g j 0=some (.slice bu n bv)∧
 ((2:Int)≠0)∧
 AL g [(.int .u64 (u64.wrap (i64.wrap (Int.tdiv (n:Int) 2))))] 56 fun ce cf=>
 CF 117 #[.slice (some ⟨ce,0,none⟩) 1 1] cf fun cg ch=>∃a0 a1 a2,cg=(.slice a0 a1 a2)∧
 RunW Tryz.prog (Builtin.append_ #[24,24] 24 #[.slice av aw ax,.slice a0 a1 a2]) ch fun ci bl=>
 ∃a3 a4 a5,ci=(.slice a3 a4 a5)∧
 ∃a6 a7 a8,q00 bl j 0=some (.slice a6 a7 a8)∧
 CF 117 #[.slice a6 a7 a8] bl fun cj ck=>∃a9 ba bb,cj=(.slice a9 ba bb)∧
 RunW Tryz.prog (Builtin.append_ #[24,24] 24 #[.slice a3 a4 a5,.slice a9 ba bb]) ck fun cl bm=>
 ∃bc bd be,cl=(.slice bc bd be)∧
 bm[b.size]?=some (.deferred (some []))∧
 K (.slice bc bd be) (bm.setIfInBounds b.size (.deferred none)))
theorem q6f.call {a b c d e f g i H K:_}(hK:q6f.code a b c d e f g i H K):CF 133 ⟨[.agg ⟨[I64 a,I64 b,.int .u64 c,I64 d,I64 e,I64 f,I64 g]++vecL .i64 i 65 0⟩]⟩ H K:=
 cE Tryz.func133 (.r (.seq (.r (.cond (.r .no) .no)) (.r (.r (.r (.r (.seq (.r (.blk (.rng [.one (.int .i64),.one (.int .i64)] [none] (.r .reg) (.blk .reg)))) (.r (.r .no))))))))) hK
def q71.code (a:Option Nat)(H:Heap)(K:KT):Prop:=
 AL H [.map a] 198 fun b c=>
 K (.func (.func 181) #[] #[PA b 0]) c
theorem q71.call {a H K:_}(hK:q71.code a H K):CF 130 ⟨[.map a]⟩ H K:=
 cE Tryz.func130 (.r (.r .no)) hK
def q2n.code (d:FuncId)(e:List Value)(f:FuncId)(g:List Value)(H:Heap)(K:KT):Prop:=
 CF 179 #[.func (.func d) #[] ⟨e⟩] H fun i j=>∃a b c,i=(.slice a b c)∧
 CF 180 #[.slice a b c,.func (.func f) #[] ⟨g⟩] j fun k l=>k=(.tuple #[])∧
 K (.slice a b c) l
theorem q2n.call {a b c d H K:_}(hK:q2n.code a b c d H K):CF 129 ⟨[.func (.func a) #[] ⟨b⟩,.func (.func c) #[] ⟨d⟩]⟩ H K:=
 cE Tryz.func129 (.r (.r (.r (.r .no)))) hK
def q4z.l1 (x:Nat)(K:KT)(y:Option Nat)(z:Option Addr)(f:Nat)(aa:Int→Heap→Prop)(g:Int→Heap→Nat)(a:Int)(b:Heap):Prop:=
 IF (decide (a < (f:Int))) (
 ((0:Int)≤a∧a < (f:Int))∧∃v w:Nat,(z=some ⟨v,w,none⟩)∧
 ∃c0 i,q01 b v (w+a.toNat*2) [I64 c0,.string i]∧
 AL b [I64 0,(.string (⟨#[]⟩:ByteArray))] 55 fun d ab=>
 ST ab d 0 [I64 c0,.string i] fun c=>
 ∃j k,q01 c d 0 [I64 j,.string k]∧
 ∃l m,q01 c d 0 [I64 l,.string m]∧
 ∃n o p q r s t u,q09 Tryz.prog (Instr.lookup 198 (.map y) (.agg #[I64 l,.string m]) false) c (.agg ⟨[I64 n,I64 o,.int .u64 p,I64 q,I64 r,I64 s,I64 t]++vecL .i64 u 65 0⟩)∧
 q33 Tryz.prog x [.agg #[I64 j,.string k],.agg ⟨[I64 n,I64 o,.int .u64 p,I64 q,I64 r,I64 s,I64 t]++vecL .i64 u 65 0⟩] c fun ac e=>∃r1,ac=(.bool r1)∧
 IF (!r1) (
 K (.tuple #[]) e) (
 aa (i64.wrap (a+1)) e∧g (i64.wrap (a+1)) e < g a b)) (
 K (.tuple #[]) b)
def q4z.code (l m n:Nat)(H:Heap)(K:KT):Prop:=
 ∃a,q00 H m n=some (.pointer a)∧
 NN a (
 ∃d,q00 H (adrB a) ((adrO a)+1)=some (.map d)∧
 CF 128 #[.map d] H fun q r=>∃c,q=(.map c)∧
 CF 130 #[.map c] r fun s t=>∃e f,s=(.func (.func e) #[] ⟨f⟩)∧
 CF 129 #[.func (.func e) #[] ⟨f⟩,.func (.func 131) #[] #[]] t fun u v=>∃g i p,u=(.slice g i p)∧
 ∃(b:Int→Heap→Prop) (o:Int→Heap→Nat),b 0 v∧
 ∀j k,b j k→q4z.l1 l K c g i b o j k)
theorem q4z.call {a b c H K:_}(hK:q4z.code a b c H K):CF 127 ⟨[.func (.yield a) #[] #[],PA b c]⟩ H K:=
 cE Tryz.func127 (.r (.r (.blk (.loop [(15,.one (.int .i64))] (.r (.seq (.cond .no .no) (.seq (.blk (.r (.r (.cond .no .no)))) .reg))))))) hK
def qfe.code (a:Nat→Int)(H:Heap)(K:KT):Prop:=
 AL H (vecL .i64 a 65 0) 60 fun b c=>
 K (.func (.func 153) #[] #[PA b 0]) c
theorem qfe.call {a H K:_}(hK:qfe.code a H K):CF 79 ⟨[.agg ⟨vecL .i64 a 65 0⟩]⟩ H K:=
 cE Tryz.func79 (.r (.r .no)) hK
def qac.code (a:Int)(H:Heap)(K:KT):Prop:=
 IF (decide (a < 0)) (
 K (I64 0) H) (
 IF (decide (a=0)) (
 K (I64 1) H) (
 ∃b,CQ 152 #[.int .u64 (u64.wrap a)] H (I64 b)∧
 K (I64 (i64.wrap ((i64.wrap (2+b)) - 1))) H))
theorem qac.call {a H K:_}(hK:qac.code a H K):CF 78 ⟨[I64 a]⟩ H K:=
 cE Tryz.func78 (.r (.seq (.blk (.r (.cond (.r .no) (.r (.cond (.r .no) .no))))) (.r .no))) hK
def qom.code (a:Int)(H:Heap)(K:KT):Prop:=
 AL H [I64 0,.int .u64 0] 58 fun d f=>
 ((0:Int)≤63)∧
 ST f d 0 [I64 (Int.fdiv a (2 ^ (min (Int.toNat 63) (i64.bits)))),.int .u64 (u64.wrap a)] fun e=>
 ∃b c,q01 e d 0 [I64 b,.int .u64 c]∧
 K (.agg #[I64 b,.int .u64 c]) e
theorem qom.call {a H K:_}(hK:qom.code a H K):CF 77 ⟨[I64 a]⟩ H K:=
 cE Tryz.func77 (.r (.r .no)) hK
def qd0.code (f:Nat→Int)(H:Heap)(K:KT):Prop:=
 AL H (vecL .i64 f 65 0) 60 fun g i=>
 AL i [I64 0,.int .u64 0] 58 fun d j=>
 ((0:Int)≤0∧(0:Int)≤65∧(65:Int)≤65)∧
 CF 151 #[.slice (slB (some ⟨g,0,none⟩) 0 65 1) 65 65] j fun k l=>∃a r1,k=(.agg #[I64 a,.int .u64 r1])∧
 ST l d 0 [I64 a,.int .u64 r1] fun e=>
 ∃b c,q01 e d 0 [I64 b,.int .u64 c]∧
 K (.agg #[I64 b,.int .u64 c]) e
theorem qd0.call {a H K:_}(hK:qd0.code a H K):CF 76 ⟨[.agg ⟨vecL .i64 a 65 0⟩]⟩ H K:=
 cE Tryz.func76 (.r (.r .no)) hK
def qff.code (a b:Nat)(H:Heap)(K:KT):Prop:=
 AL H [PA a b] 112 fun c d=>
 K (.func (.func 127) #[] #[PA c 0]) d
theorem qff.call {a b H K:_}(hK:qff.code a b H K):CF 64 ⟨[PA a b]⟩ H K:=
 cE Tryz.func64 (.r (.r .no)) hK
def qk0.code (c d:Nat)(H:Heap)(K:KT):Prop:=
 ∃a,q00 H c (d+1)=some (.map a)∧
 ∃b:Int,q09 Tryz.prog (Builtin.len_ #[198] 3 #[.map a]) H (.int .i64 b)∧
 K (I64 b) H
theorem qk0.call {a b H K:_}(hK:qk0.code a b H K):CF 63 ⟨[PA a b]⟩ H K:=
 cE Tryz.func63 (.r (.r .no)) hK
def qk1.code (a:Int)(H:Heap)(K:KT):Prop:=
 IF ((decide (a < 1)) || (decide (1024 < a))) (
 K (.tuple #[.pointer none,I64 11]) H) (
 ∀(b:Nat) (c:Heap),b=H.size→c=H.push (.map #[] 0)→
 AL c [I64 a,.map (some b)] 200 fun d e=>
 K (.tuple #[PA d 0,I64 0]) e)
theorem qk1.call {a H K:_}(hK:qk1.code a H K):CF 55 ⟨[I64 a]⟩ H K:=
 cE Tryz.func55 (.r (.seq (.r (.cond (.r .no) .no)) (.r .no))) hK
def qfg.code (b c:Nat)(au:Int)(av:ByteArray)(c0 aw ax ay az a0 a1:Int)(a2:Nat→Int)(H:Heap)(K:KT):Prop:=
 AL H [I64 au,.string av] 55 fun s a3=>
 AL a3 ([I64 c0,I64 aw,.int .u64 ax,I64 ay,I64 az,I64 a0,I64 a1]++vecL .i64 a2 65 0) 62 fun ar g=>
 ∃d,q00 g b (c+1)=some (.map d)∧
 ∃e f,q01 g s 0 [I64 e,.string f]∧
 ∃j k l m n o p q,∃r:Bool,q09 Tryz.prog (Instr.lookup 198 (.map d) (.agg #[I64 e,.string f]) true) g (.tuple #[.agg ⟨[I64 j,I64 k,.int .u64 l,I64 m,I64 n,I64 o,I64 p]++vecL .i64 q 65 0⟩,.bool r])∧
 AL g ([I64 0,I64 0,.int .u64 0,I64 0,I64 0,I64 0,I64 0]++vecL .i64 Z0 65 0) 62 fun a4 i=>
 q09 Tryz.prog (Instr.lookup 198 (.map d) (.agg #[I64 e,.string f]) true) i (.tuple #[.agg ⟨[I64 j,I64 k,.int .u64 l,I64 m,I64 n,I64 o,I64 p]++vecL .i64 q 65 0⟩,.bool r])∧
 q01 i s 0 [I64 e,.string f]∧
 q00 i b (c+1)=some (.map d)∧
 ST i a4 0 ([I64 j,I64 k,.int .u64 l,I64 m,I64 n,I64 o,I64 p]++vecL .i64 q 65 0) fun t=>
 IF r (
 K (I64 18) t) (
 ∃u v w x y z aa ab,q01 t ar 0 ([I64 u,I64 v,.int .u64 w,I64 x,I64 y,I64 z,I64 aa]++vecL .i64 ab 65 0)∧
 CF 25 #[.agg ⟨[I64 u,I64 v,.int .u64 w,I64 x,I64 y,I64 z,I64 aa]++vecL .i64 ab 65 0⟩] t fun a5 a=>∃ac,a5=(.bool ac)∧
 IF (!ac) (
 K (I64 10) a) (
 ∃ad,q00 a b (c+1)=some (.map ad)∧
 ∃aq:Int,q09 Tryz.prog (Builtin.len_ #[198] 3 #[.map ad]) a (.int .i64 aq)∧
 ∃ae,q00 a b c=some (I64 ae)∧
 IF (decide (ae≤aq)) (
 K (I64 20) a) (
 ∃af,q00 a b (c+1)=some (.map af)∧
 ∃ag ah,q01 a s 0 [I64 ag,.string ah]∧
 ∃ai aj ak al am an ao ap,q01 a ar 0 ([I64 ai,I64 aj,.int .u64 ak,I64 al,I64 am,I64 an,I64 ao]++vecL .i64 ap 65 0)∧
 RunW Tryz.prog (Instr.mapUpdate 198 (.map af) (.agg #[I64 ag,.string ah]) (.agg ⟨[I64 ai,I64 aj,.int .u64 ak,I64 al,I64 am,I64 an,I64 ao]++vecL .i64 ap 65 0⟩)) a fun a7 a6=>
 K (I64 0) a6)))
theorem qfg.call {a b c d e f g i j k l m H K:_}(hK:qfg.code a b c d e f g i j k l m H K):CF 48 ⟨[PA a b,.agg #[I64 c,.string d],.agg ⟨[I64 e,I64 f,.int .u64 g,I64 i,I64 j,I64 k,I64 l]++vecL .i64 m 65 0⟩]⟩ H K:=
 cE Tryz.func48 (.r (.seq (.r (.r (.cond (.r .no) .no))) (.seq (.r (.cond (.r .no) .no)) (.seq (.r (.cond (.r .no) .no)) (.r (.r .no)))))) hK
def q25.y1 (j k l m n:Nat)(a:Heap)(b:Loop)(o:List Value)(e:Heap)(K_:Value→Heap→Prop):Prop:=
 ∃d p,o=[I64 d,I64 p]∧
 e[a.size+1]?=some (.loop b)∧
 e[a.size+1]?=some (.loop b)∧
 ∀c,c=q0q e (a.size+1) { b with state:=.busy }→
 ∃f,q00 c k l=some (I64 f)∧
 ∃g,(((decide (d < f))=false)→q00 c m n=some (I64 g))∧
 IF ((decide (d < f)) || (decide (g < d))) (
 ST c j 0 [.bool false] fun i=>
 i[a.size+1]?=some (.loop { b with state:=.busy })∧K_ (.bool false) (q0q i (a.size+1) { b with state:=.done,pending:=some .ret })) (
 c[a.size+1]?=some (.loop { b with state:=.busy })∧K_ (.bool true) (q0q c (a.size+1) b))
def q25.r2 (K:KT)(k c n o p q:Nat)(b:Heap):Prop:=
 ∃i,q00 b n o=some (I64 i)∧
 ((0:Int)≤i∧i < 65)∧
 ∃e,q00 b k (7+i.toNat)=some (I64 e)∧
 ∃j,(((decide (e=0))=false)→q00 b p q=some (I64 j))∧
 (((decide (e=0))=false)→((0:Int)≤j∧j < 65))∧
 ∃u,(((decide (e=0))=false)→q00 b k (7+j.toNat)=some (I64 u))∧
 IF ((decide (e=0)) || (decide (u=0))) (
 ST b c 0 [.bool false] fun aa=>
 ∃v,q00 aa c 0=some (.bool v)∧
 K (.bool v) aa) (
 ∃w,q01 b k 7 (vecL .i64 w 65 0)∧
 CF 79 #[.agg ⟨vecL .i64 w 65 0⟩] b fun ac a=>∃l x,ac=(.func (.func l) #[] ⟨x⟩)∧
 memN l X.calls=true∧
 ∀d:Loop,d.state=.ready→d.pending=none→
 (∀(r:List Value) (s:Heap) (K_:Value→Heap→Prop),q25.y1 c n o p q a d r s K_→q33 Tryz.prog (a.size+1) r s K_)→
 CF l ⟨(.func (.yield (a.size+1)) #[] #[])::x⟩ ((a.push (.deferred (some []))).push (.loop d)) fun ad ab=>∃(t:LoopState) (g:Option Code),t≠.busy∧ab[a.size+1]?=some (.loop { d with state:=t,pending:=g })∧
 ∀f,f=q0q ab (a.size+1) { d with state:=.exhausted,pending:=g }→
 ((g=none∧
 ST f c 0 [.bool true] fun m=>
 m[a.size]?=some (.deferred (some []))∧
 ∃y,q00 (m.setIfInBounds a.size (.deferred none)) c 0=some (.bool y)∧
 K (.bool y) (m.setIfInBounds a.size (.deferred none)))∨
 g=(some .ret)∧
 f[a.size]?=some (.deferred (some []))∧
 ∃z,q00 (f.setIfInBounds a.size (.deferred none)) c 0=some (.bool z)∧
 K (.bool z) (f.setIfInBounds a.size (.deferred none))))
def q25.l3 (K:KT)(a e:Nat)(au:Nat→Int)(av:Int→Heap→Prop)(r:Int→Heap→Nat)(i:Int)(f:Heap):Prop:=
 IF (decide (i < 65)) (
 ∃w,q5z Tryz.prog (Instr.index 60 (.agg ⟨vecL .i64 au 65 0⟩) (I64 i)) (I64 w)∧
 IF (decide (w < 0)) (
 ST f e 0 [.bool false] fun ak=>
 ∃x,q00 ak e 0=some (.bool x)∧
 K (.bool x) ak) (
 av (i64.wrap (i+1)) f∧r (i64.wrap (i+1)) f < r i f)) (
 ∃y,q01 f a 7 (vecL .i64 y 65 0)∧
 ∃o,q00 f a 0=some (I64 o)∧
 CF 76 #[.agg ⟨vecL .i64 y 65 0⟩] f fun aw al=>∃z r1,aw=(.agg #[I64 z,.int .u64 r1])∧
 q00 al a 0=some (I64 o)∧
 CF 77 #[I64 o] al fun ax b=>∃aa ab,ax=(.agg #[I64 aa,.int .u64 ab])∧
 ∃ai:Bool,q7d Tryz.prog .neq 58 (.agg #[I64 z,.int .u64 r1]) (.agg #[I64 aa,.int .u64 ab]) ai∧
 IF ai (
 ST b e 0 [.bool false] fun am=>
 ∃ac,q00 am e 0=some (.bool ac)∧
 K (.bool ac) am) (
 ∃ad,q00 b a 0=some (I64 ad)∧
 IF (decide (ad=0)) (
 ∃ae af,q01 b a 1 [I64 ae,.int .u64 af]∧
 ∃n:Bool,q7d Tryz.prog .eql 58 (.agg #[I64 ae,.int .u64 af]) (.agg #[I64 0,.int .u64 0]) n∧
 ∃p,((n=true)→q00 b a 3=some (I64 p))∧
 ∃ag,(((n && (decide (p=0)))=true)→q00 b a 4=some (I64 ag))∧
 ST b e 0 [.bool ((n && (decide (p=0))) && (decide (ag=0)))] fun an=>
 ∃ah,q00 an e 0=some (.bool ah)∧
 K (.bool ah) an) (
 ∀q:Nat→Nat→Nat→Nat→Heap→Prop,(∀(s:Nat) (t:Nat) (u:Nat) (v:Nat),∀aj:Heap,q25.r2 K a e s t u v aj→q s t u v aj)→
 ∃c,q00 b a 3=some (I64 c)∧
 ∃g,CQ 78 #[I64 c] b (I64 g)∧
 ∃d,q00 b a 4=some (I64 d)∧
 ∃r2,CQ 78 #[I64 d] b (I64 r2)∧
 (AL b [I64 0] 3 fun ao j=>
 CQ 78 #[I64 d] j (I64 r2)∧
 q00 j a 4=some (I64 d)∧
 CQ 78 #[I64 c] j (I64 g)∧
 q00 j a 3=some (I64 c)∧
 AL j [I64 0] 3 fun ap k=>
 CQ 78 #[I64 d] k (I64 r2)∧
 q00 k a 4=some (I64 d)∧
 CQ 78 #[I64 c] k (I64 g)∧
 q00 k a 3=some (I64 c)∧
 ST k ao 0 [I64 g] fun ay=>
 ST ay ap 0 [I64 r2] fun az=>
 q ao 0 ap 0 az)∧
 (AL b [I64 0] 3 fun aq l=>
 CQ 78 #[I64 d] l (I64 r2)∧
 q00 l a 4=some (I64 d)∧
 CQ 78 #[I64 c] l (I64 g)∧
 q00 l a 3=some (I64 c)∧
 AL l [I64 0] 3 fun ar m=>
 CQ 78 #[I64 d] m (I64 r2)∧
 q00 m a 4=some (I64 d)∧
 CQ 78 #[I64 c] m (I64 g)∧
 q00 m a 3=some (I64 c)∧
 ST m ar 0 [I64 g] fun a0=>
 ST a0 aq 0 [I64 r2] fun a1=>
 q ar 0 aq 0 a1))))
def q25.code (c0 p q r s t u:Int)(v:Nat→Int)(H:Heap)(K:KT):Prop:=
 AL H ([I64 c0,I64 p,.int .u64 q,I64 r,I64 s,I64 t,I64 u]++vecL .i64 v 65 0) 62 fun b x=>
 AL x [.bool false] 4 fun g a=>
 ∃c,q00 a b 0=some (I64 c)∧
 ∃d,(((decide (c < 0))=false)→q00 a b 5=some (I64 d))∧
 ∃e,((((decide (c < 0)) || (decide (d < 0)))=false)→q00 a b 6=some (I64 e))∧
 ∃i,(((((decide (c < 0)) || (decide (d < 0))) || (decide (e < 0)))=false)→q00 a b 3=some (I64 i))∧
 ∃j,(((((decide (c < 0)) || (decide (d < 0))) || (decide (e < 0)))=false)→q00 a b 4=some (I64 j))∧
 IF ((((decide (c < 0)) || (decide (d < 0))) || (decide (e < 0))) || (decide (j < i))) (
 ST a g 0 [.bool false] fun o=>
 ∃k,q00 o g 0=some (.bool k)∧
 K (.bool k) o) (
 ∃l,q01 a b 7 (vecL .i64 l 65 0)∧
 ∃(f:Int→Heap→Prop) (w:Int→Heap→Nat),f 0 a∧
 ∀m n,f m n→q25.l3 K b g l f w m n)
theorem q25.call {a b c d e f g i H K:_}(hK:q25.code a b c d e f g i H K):CF 25 ⟨[.agg ⟨[I64 a,I64 b,.int .u64 c,I64 d,I64 e,I64 f,I64 g]++vecL .i64 i 65 0⟩]⟩ H K:=
 cE Tryz.func25 (.r (.seq (.r (.cond (.r .no) .no)) (.seq (.r (.blk (.loop [(30,.one (.int .i64))] (.r (.seq (.cond .no .no) (.seq (.blk (.r (.r (.cond (.r .no) .no)))) .reg)))))) (.seq (.r (.cond (.r .no) .no)) (.seq (.r (.cond (.r .no) .no)) (.seq (.regJ [(5,.one (.adr)),(6,.one (.adr))]) (.seq (.r (.cond (.r .no) .no)) (.seq (.r (.blk (.rng [.one (.int .i64),.one (.int .i64)] [none,(some .ret)] .reg (.blk (.r (.cond (.r .no) .no)))))) (.r .no))))))))) hK
open Go.Nm
def q5n.code (e f g i:ByteArray)(H:Heap)(K:KT):Prop:=
 AL H [.string e,.string f] 267 fun j k=>
 AL k [.string g,.string i] 267 fun l a=>
 ∃b,q00 a j 0=some (.string b)∧
 ∃c,q00 a l 0=some (.string c)∧
 ∃d,CQ 183 #[.string b,.string c] a (I64 d)∧
 K (I64 d) a
theorem q5n.call {a b c d H K:_}(hK:q5n.code a b c d H K):CF 266 ⟨[.agg #[.string a,.string b],.agg #[.string c,.string d]]⟩ H K:=
 cE Tryz.func266 (.r (.r .no)) hK
def q2o.code (b:ByteArray)(c:Int)(H:Heap)(K:KT):Prop:=
 ∃a,qj1 Tryz.prog 283 #[.string b,.int .u8 c] (I64 a)∧
 K (I64 a) H
theorem q2o.call {a b H K:_}(hK:q2o.code a b H K):CF 265 ⟨[.string a,.int .u8 b]⟩ H K:=
 cE Tryz.func265 (.r (.r .no)) hK
def q0p.l1 (m b c:Nat)(K:KT)(n:Heap→Prop)(g:Heap→Nat)(d:Heap):Prop:=
 ∃i,q00 d b c=some (.string i)∧
 IF (decide (0 < (i.size:Int))) (
 ∃j,q00 d b c=some (.string j)∧
 CF 235 #[.string j] d fun p k=>∃o r1,p=(.tuple #[.int .i32 o,I64 r1])∧
 ∃e,q00 k b c=some (.string e)∧
 ((0:Int)≤0∧(0:Int)≤r1∧r1≤(e.size:Int))∧
 q33 Tryz.prog m [.string (e.extract 0 r1.toNat)] k fun q f=>∃r2,q=(.bool r2)∧
 IF (!r2) (
 K (.tuple #[]) f) (
 ∃a,q00 f b c=some (.string a)∧
 ((0:Int)≤r1∧r1≤(a.size:Int)∧(a.size:Int)≤(a.size:Int))∧
 ST f b c [.string (a.extract r1.toNat a.size)] fun l=>
 n l∧g l < g d)) (
 K (.tuple #[]) d)
def q0p.l2 (k l m b c s t:Nat)(K:KT)(u:Heap→Prop)(n:Heap→Nat)(e:Heap):Prop:=
 ∃o,q00 e b c=some (.string o)∧
 ∃p,q00 e l m=some (.string p)∧
 CF 236 #[.string o,.string p] e fun v d=>∃r3,v=(I64 r3)∧
 IF (decide (r3 < 0)) (
 ∃q,q00 d b c=some (.string q)∧
 q33 Tryz.prog k [.string q] d fun w x=>∃r4,w=(.bool r4)∧
 K (.tuple #[]) x) (
 ∃j,q00 d b c=some (.string j)∧
 ∃f,q00 d s t=some (I64 f)∧
 ((0:Int)≤0∧(0:Int)≤(i64.wrap (r3+f))∧(i64.wrap (r3+f))≤(j.size:Int))∧
 q33 Tryz.prog k [.string (j.extract 0 ((i64.wrap (r3+f)).toNat))] d fun y i=>∃r5,y=(.bool r5)∧
 IF (!r5) (
 K (.tuple #[]) i) (
 ∃a,q00 i b c=some (.string a)∧
 ∃g,q00 i l m=some (.string g)∧
 ((0:Int)≤(i64.wrap (r3+(g.size:Int)))∧(i64.wrap (r3+(g.size:Int)))≤(a.size:Int)∧(a.size:Int)≤(a.size:Int))∧
 ST i b c [(.string (a.extract ((i64.wrap (r3+(g.size:Int))).toNat) a.size))] fun r=>
 u r∧n r < n e))
def q0p.code (c d e f g l m:Nat)(H:Heap)(K:KT):Prop:=
 ∃i,q00 H d e=some (.string i)∧
 IF (decide ((i.size:Int)=0)) (
 ∃(a:Heap→Prop) (n:Heap→Nat),a H∧
 ∀j:Heap,a j→q0p.l1 c f g K a n j) (
 ∃(b:Heap→Prop) (o:Heap→Nat),b H∧
 ∀k:Heap,b k→q0p.l2 c d e f g l m K b o k)
theorem q0p.call {a b c d e f g H K:_}(hK:q0p.code a b c d e f g H K):CF 234 ⟨[.func (.yield a) #[] #[],PA b c,PA d e,PA f g]⟩ H K:=
 cE Tryz.func234 (.seq (.r (.cond (.seq (.blk (.loop [] (.seq (.r (.cond .no .no)) (.blk (.r (.seq (.r (.cond .no .no)) .reg)))))) .no) .no)) (.seq (.blk (.loop [] (.blk (.r (.seq (.r (.cond .no .no)) (.r (.seq (.r (.cond .no .no)) .reg))))))) .reg)) hK
def q40.code (a b:ByteArray)(H:Heap)(K:KT):Prop:=
 (((decide ((b.size:Int)≤(a.size:Int)))=true)→((0:Int)≤(i64.wrap ((a.size:Int) - (b.size:Int)))∧(i64.wrap ((a.size:Int) - (b.size:Int)))≤(a.size:Int)∧(a.size:Int)≤(a.size:Int)))∧
 K (.bool ((decide ((b.size:Int)≤(a.size:Int))) && ((a.extract ((i64.wrap ((a.size:Int) - (b.size:Int))).toNat) a.size).toList == b.toList))) H
theorem q40.call {a b H K:_}(hK:q40.code a b H K):CF 233 ⟨[.string a,.string b]⟩ H K:=
 cE Tryz.func233 (.r (.r .no)) hK
def q1d.r1 (b c:ByteArray)(K:KT)(j:Int→Int→Heap→Prop)(i:Int→Int→Heap→Nat)(k e:Int)(l:Heap)(a:Int)(d:Heap):Prop:=
 ((0:Int)≤(i64.wrap (a+1))∧(i64.wrap (a+1)) < (b.size:Int))∧
 (((decide ((bAt b (i64.wrap (a+1)).toNat)=(bAt c 1)))=true)→((0:Int)≤a∧a≤(i64.wrap (a+(c.size:Int)))∧(i64.wrap (a+(c.size:Int)))≤(b.size:Int)))∧
 IF ((decide ((bAt b (i64.wrap (a+1)).toNat)=(bAt c 1))) && ((b.extract a.toNat ((i64.wrap (a+(c.size:Int))).toNat)).toList == c.toList)) (
 K (I64 a) d) (
 ∃f,q00 d 0 0=some (I64 f)∧
 ∃r1,(((decide ((c.size:Int)≤f))=true)→CQ 268 #[I64 (i64.wrap (a+1))] d (I64 r1))∧
 IF ((decide ((c.size:Int)≤f)) && (decide (r1 < (i64.wrap (e+1))))) (
 ((0:Int)≤(i64.wrap (a+1))∧(i64.wrap (a+1))≤(b.size:Int)∧(b.size:Int)≤(b.size:Int))∧
 False) (
 ∃g,q00 d 0 0=some (I64 g)∧
 (((decide (g < (c.size:Int)))=true)→((0:Int)≤4))∧
 IF (((decide (g < (c.size:Int))) && (decide ((i64.wrap (4+(Int.fdiv (i64.wrap (a+1)) (2 ^ (min (Int.toNat 4) (i64.bits))))))≤(i64.wrap (e+1))))) && (decide ((i64.wrap (a+1)) < (i64.wrap ((i64.wrap ((b.size:Int) - (c.size:Int)))+1))))) (
 ((0:Int)≤(i64.wrap (a+1))∧(i64.wrap (a+1))≤(b.size:Int)∧(b.size:Int)≤(b.size:Int))∧
 ∃r2,CQ 269 #[.string (b.extract ((i64.wrap (a+1)).toNat) b.size),.string c] d (I64 r2)∧
 IF (decide (r2 < 0)) (
 K (I64 (-1)) d) (
 K (I64 (i64.wrap ((i64.wrap (a+1))+r2))) d)) (
 j (i64.wrap (a+1)) (i64.wrap (e+1)) d∧i (i64.wrap (a+1)) (i64.wrap (e+1)) d < i k e l)))
def q1d.l2 (b c:ByteArray)(K:KT)(j:Int→Int→Heap→Prop)(k:Int→Int→Heap→Nat)(a l:Int)(d:Heap):Prop:=
 IF (decide (a < (i64.wrap ((i64.wrap ((b.size:Int) - (c.size:Int)))+1)))) (
 ((0:Int)≤a∧a < (b.size:Int))∧
 ∀e:Int→Heap→Prop,(∀f g,q1d.r1 b c K j k a l d f g→e f g)→
 IF (!decide ((bAt b a.toNat)=(bAt c 0))) (
 ((0:Int)≤(i64.wrap (a+1))∧(i64.wrap (a+1))≤(i64.wrap ((i64.wrap ((b.size:Int) - (c.size:Int)))+1))∧(i64.wrap ((i64.wrap ((b.size:Int) - (c.size:Int)))+1))≤(b.size:Int))∧
 CF 265 #[(.string (b.extract ((i64.wrap (a+1)).toNat) ((i64.wrap ((i64.wrap ((b.size:Int) - (c.size:Int)))+1)).toNat))),.int .u8 (bAt c 0)] d fun m i=>∃r3,m=(I64 r3)∧
 IF (decide (r3 < 0)) (
 K (I64 (-1)) i) (
 e (i64.wrap (a+(i64.wrap (r3+1)))) i)) (
 e a d)) (
 K (I64 (-1)) d)
def q1d.code (b a:ByteArray)(H:Heap)(K:KT):Prop:=
 IF ((decide ((a.size:Int)=0)) || (a.toList == b.toList)) (
 K (I64 0) H) (
 IF (decide ((a.size:Int)=1)) (
 ((0:Int)≤0∧0 < (a.size:Int))∧
 CF 265 #[.string b,.int .u8 (bAt a 0)] H fun k l=>∃f,k=(I64 f)∧
 K (I64 f) l) (
 IF (decide ((b.size:Int)≤(a.size:Int))) (
 K (I64 (-1)) H) (
 ∃g,q00 H 0 0=some (I64 g)∧
 IF ((decide ((a.size:Int)≤g)) && (decide ((b.size:Int)≤64))) (
 False) (
 ((0:Int)≤0∧0 < (a.size:Int))∧
 ((0:Int)≤1∧1 < (a.size:Int))∧
 ∃(c:Int→Int→Heap→Prop) (j:Int→Int→Heap→Nat),c 0 0 H∧
 ∀(d:Int) (e:Int),∀i:Heap,c d e i→q1d.l2 b a K c j d e i))))
theorem q1d.call {a b H K:_}(hK:q1d.code a b H K):CF 232 ⟨[.string a,.string b]⟩ H K:=
 cE Tryz.func232 (.r (.r (.seq (.blk (.r (.cond (.r .no) (.r (.cond (.r .no) (.r (.cond (.r .no) (.r (.cond (.r .no) .no))))))))) (.r (.r (.r (.r (.r (.seq (.blk (.loop [(8,.one (.int .i64)),(10,.one (.int .i64))] (.seq (.r (.cond .no .no)) (.blk (.seq (.r (.condJ [(8,.one (.int .i64))] (.r (.seq (.r (.cond (.r .no) .no)) .reg)) .no)) (.seq (.r (.cond (.r .no) .no)) (.r (.r (.r (.cond (.r (.seq (.r (.cond (.r .no) .no)) (.r .no))) (.r (.cond (.r (.seq (.r (.cond (.r .no) .no)) (.r .no))) .no)))))))))))) (.r .no)))))))))) hK
def qad.code (m n o p:ByteArray)(H:Heap)(K:KT):Prop:=
 AL H [.string m,.string n] 267 fun e q=>
 AL q [.string o,.string p] 267 fun f a=>
 ∃c0 g,q01 a e 0 [.string c0,.string g]∧
 ∃i j,q01 a f 0 [.string i,.string j]∧
 ∃c,q00 a e 1=some (.string c)∧
 ∃d,q00 a f 1=some (.string d)∧
 CF 266 #[.agg #[.string c0,.string g],.agg #[.string i,.string j]] a fun r b=>∃k,r=(I64 k)∧
 q00 b f 1=some (.string d)∧
 q00 b e 1=some (.string c)∧
 ∃r1,CQ 183 #[.string c,.string d] b (I64 r1)∧
 AL b [I64 k,I64 r1] 3 fun s l=>
 ∃r2,CQ 229 #[.slice (some ⟨s,0,none⟩) 2 2] l (I64 r2)∧
 K (I64 r2) l
theorem qad.call {a b c d H K:_}(hK:qad.code a b c d H K):CF 231 ⟨[.agg #[.string a,.string b],.agg #[.string c,.string d]]⟩ H K:=
 cE Tryz.func231 (.r (.r .no)) hK
def q0j.l1 (y:Option Addr)(c:Nat)(z:Option Addr)(d:Nat)(j:FuncId)(aa:List Value)(K:KT)(ab:Int→Heap→Prop)(k:Int→Heap→Nat)(a:Int)(b:Heap):Prop:=
 IF (decide (a < (c:Int))) (
 ((0:Int)≤a∧a < (c:Int))∧∃s t:Nat,(y=some ⟨s,t,none⟩)∧
 ∃c0 l,q01 b s (t+a.toNat*2) [.string c0,.string l]∧
 AL b [(.string (⟨#[]⟩:ByteArray)),(.string (⟨#[]⟩:ByteArray))] 267 fun w ac=>
 ST ac w 0 [.string c0,.string l] fun f=>
 IF (decide ((d:Int)≤a)) (
 K (I64 1) f) (
 ((0:Int)≤a∧a < (d:Int))∧∃u v:Nat,(z=some ⟨u,v,none⟩)∧
 ∃m n,q01 f u (v+a.toNat*2) [.string m,.string n]∧
 AL f [(.string (⟨#[]⟩:ByteArray)),(.string (⟨#[]⟩:ByteArray))] 267 fun x ad=>
 ST ad x 0 [.string m,.string n] fun g=>
 ∃o p,q01 g w 0 [.string o,.string p]∧
 ∃q r,q01 g x 0 [.string q,.string r]∧
 memN j X.calls=true∧
 CF j ⟨[.agg #[.string o,.string p],.agg #[.string q,.string r]]++aa⟩ g fun ae i=>∃e,ae=(I64 e)∧
 IF (!decide (e=0)) (
 K (I64 e) i) (
 ab (i64.wrap (a+1)) i∧k (i64.wrap (a+1)) i < k a b))) (
 IF (decide ((c:Int) < (d:Int))) (
 K (I64 (-1)) b) (
 K (I64 0) b))
def q0j.code (d:Option Addr)(e l:Nat)(f:Option Addr)(g m:Nat)(i:FuncId)(j:List Value)(H:Heap)(K:KT):Prop:=
 ∃(a:Int→Heap→Prop) (k:Int→Heap→Nat),a 0 H∧
 ∀b c,a b c→q0j.l1 d e f g i j K a k b c
theorem q0j.call {a b c d e f g i H K:_}(hK:q0j.code a b c d e f g i H K):CF 230 ⟨[.slice a b c,.slice d e f,.func (.func g) #[] ⟨i⟩]⟩ H K:=
 cE Tryz.func230 (.r (.seq (.r (.blk (.loop [(13,.one (.int .i64))] (.r (.seq (.cond .no .no) (.seq (.blk (.r (.seq (.r (.cond (.r .no) .no)) (.r (.r (.r (.cond (.r .no) .no))))))) .reg)))))) (.seq (.r (.cond (.r .no) .no)) (.r .no)))) hK
def q6g.code (b:ByteArray)(c:Int)(H:Heap)(K:KT):Prop:=
 CF 265 #[.string b,.int .u8 c] H fun d e=>∃a,d=(I64 a)∧
 K (I64 a) e
theorem q6g.call {a b H K:_}(hK:q6g.code a b H K):CF 228 ⟨[.string a,.int .u8 b]⟩ H K:=
 cE Tryz.func228 (.r (.r .no)) hK
def q7f.code (a b:ByteArray)(c:Int)(H:Heap)(K:KT):Prop:=
 AL H [.string a] 9 fun d e=>
 AL e [.string b] 9 fun f g=>
 AL g [I64 c] 3 fun i j=>
 K (.func (.func 234) #[] #[PA f 0,PA d 0,PA i 0]) j
theorem q7f.call {a b c H K:_}(hK:q7f.code a b c H K):CF 210 ⟨[.string a,.string b,I64 c]⟩ H K:=
 cE Tryz.func210 (.r (.r .no)) hK
def q41.code (a b:ByteArray)(H:Heap)(K:KT):Prop:=
 ∃c,CQ 233 #[.string a,.string b] H (.bool c)∧
 IF (!c) (
 K (.tuple #[.string a,.bool false]) H) (
 ((0:Int)≤0∧(0:Int)≤(i64.wrap ((a.size:Int) - (b.size:Int)))∧(i64.wrap ((a.size:Int) - (b.size:Int)))≤(a.size:Int))∧
 K (.tuple #[(.string (a.extract 0 ((i64.wrap ((a.size:Int) - (b.size:Int))).toNat))),.bool true]) H)
theorem q41.call {a b H K:_}(hK:q41.code a b H K):CF 209 ⟨[.string a,.string b]⟩ H K:=
 cE Tryz.func209 (.r (.seq (.r (.cond (.r .no) .no)) (.r .no))) hK
def q8a.code (a c:ByteArray)(H:Heap)(K:KT):Prop:=
 CF 232 #[.string a,.string c] H fun e d=>∃b,e=(I64 b)∧
 IF (decide (0≤b)) (
 ((0:Int)≤0∧(0:Int)≤b∧b≤(a.size:Int))∧
 ((0:Int)≤(i64.wrap (b+(c.size:Int)))∧(i64.wrap (b+(c.size:Int)))≤(a.size:Int)∧(a.size:Int)≤(a.size:Int))∧
 K (.tuple #[.string (a.extract 0 b.toNat),(.string (a.extract ((i64.wrap (b+(c.size:Int))).toNat) a.size)),.bool true]) d) (
 K (.tuple #[.string a,(.string (⟨#[]⟩:ByteArray)),.bool false]) d)
theorem q8a.call {a b H K:_}(hK:q8a.code a b H K):CF 208 ⟨[.string a,.string b]⟩ H K:=
 cE Tryz.func208 (.r (.seq (.r (.r (.cond (.r .no) .no))) (.r .no))) hK
def qae.code (o:ByteArray)(p:Option Addr)(q r:Nat)(s:ByteArray)(t:Option Addr)(u v:Nat)(H:Heap)(K:KT):Prop:=
 AL H [.string o,.slice p q r] 93 fun l w=>
 AL w [.string s,.slice t u v] 93 fun m a=>
 ∃b,q00 a l 0=some (.string b)∧
 ∃c,q00 a m 0=some (.string c)∧
 ∃d,CQ 183 #[.string b,.string c] a (I64 d)∧
 ∃e f g,q00 a l 1=some (.slice e f g)∧
 ∃i j k,q00 a m 1=some (.slice i j k)∧
 CF 230 #[.slice e f g,.slice i j k,.func (.func 231) #[] #[]] a fun x y=>∃r1,x=(I64 r1)∧
 AL y [I64 d,I64 r1] 3 fun z n=>
 ∃r2,CQ 229 #[.slice (some ⟨z,0,none⟩) 2 2] n (I64 r2)∧
 K (I64 r2) n
theorem qae.call {a b c d e f g i H K:_}(hK:qae.code a b c d e f g i H K):CF 207 ⟨[.agg #[.string a,.slice b c d],.agg #[.string e,.slice f g i]]⟩ H K:=
 cE Tryz.func207 (.r (.r .no)) hK
def q3g.r1 (K:KT)(a:Bool)(b:Heap):Prop:=
 K (.bool a) b
def q3g.code (e0 t:Int)(u:ByteArray)(v:Option Addr)(w x:Nat)(y z:Int)(aa:ByteArray)(ab:Option Addr)(ac ad:Nat)(H:Heap)(K:KT):Prop:=
 AL H [I64 e0,I64 t,.string u,.slice v w x] 95 fun g ae=>
 AL ae [I64 y,I64 z,.string aa,.slice ab ac ad] 95 fun i a=>
 ∀f:Bool→Heap→Prop,(∀j k,q3g.r1 K j k→f j k)→
 ∃b,q00 a g 0=some (I64 b)∧
 ∃c,q00 a i 0=some (I64 c)∧
 ∃d,(((decide (b=c))=true)→q00 a g 1=some (I64 d))∧
 ∃e,(((decide (b=c))=true)→q00 a i 1=some (I64 e))∧
 ∃c0 l m n,((((decide (b=c)) && (decide (d=e)))=true)→q01 a g 2 [.string c0,.slice l m n])∧
 ∃o p q r,((((decide (b=c)) && (decide (d=e)))=true)→q01 a i 2 [.string o,.slice p q r])∧
 ((((decide (b=c)) && (decide (d=e)))=true)→
 CF 207 #[.agg #[.string c0,.slice l m n],.agg #[.string o,.slice p q r]] a fun af ag=>∃s,af=(I64 s)∧
 f (decide (s=0)) ag)∧
 (¬(((decide (b=c)) && (decide (d=e)))=true)→
 f false a)
theorem q3g.call {a b c d e f g i j k l m H K:_}(hK:q3g.code a b c d e f g i j k l m H K):CF 206 ⟨[.agg #[I64 a,I64 b,.string c,.slice d e f],.agg #[I64 g,I64 i,.string j,.slice k l m]]⟩ H K:=
 cE Tryz.func206 (.r (.seq (.regJ [(4,.one (.bool))]) .no)) hK
def q0n.l1 (an:Option Addr)(e:Nat)(ao:Option Addr)(ap:Nat)(f:FuncId)(aq:List Value)(K:KT)(ar:Int→Heap→Prop)(g:Int→Heap→Nat)(a:Int)(b:Heap):Prop:=
 IF (decide (a < (e:Int))) (
 ((0:Int)≤a∧a < (e:Int))∧∃ag ah:Nat,(an=some ⟨ag,ah,none⟩)∧
 ∃c0 i j k l m,q01 b ag (ah+a.toNat*4) [I64 c0,I64 i,.string j,.slice k l m]∧
 AL b [I64 0,I64 0,(.string (⟨#[]⟩:ByteArray)),.slice none 0 0] 95 fun ak au=>
 ST au ak 0 [I64 c0,I64 i,.string j,.slice k l m] fun al=>
 ((0:Int)≤a∧a < (ap:Int))∧∃ai aj:Nat,(ao=some ⟨ai,aj,none⟩)∧
 ∃n o p q r s,q01 al ai (aj+a.toNat*4) [I64 n,I64 o,.string p,.slice q r s]∧
 AL al [I64 0,I64 0,(.string (⟨#[]⟩:ByteArray)),.slice none 0 0] 95 fun am av=>
 ST av am 0 [I64 n,I64 o,.string p,.slice q r s] fun c=>
 ∃t u v w x y,q01 c ak 0 [I64 t,I64 u,.string v,.slice w x y]∧
 ∃z aa ab ac ad ae,q01 c am 0 [I64 z,I64 aa,.string ab,.slice ac ad ae]∧
 memN f X.calls=true∧
 CF f ⟨[.agg #[I64 t,I64 u,.string v,.slice w x y],.agg #[I64 z,I64 aa,.string ab,.slice ac ad ae]]++aq⟩ c fun aw d=>∃af,aw=(.bool af)∧
 IF (!af) (
 K (.bool false) d) (
 ar (i64.wrap (a+1)) d∧g (i64.wrap (a+1)) d < g a b)) (
 K (.bool true) b)
def q0n.code (f:Option Addr)(b l:Nat)(g:Option Addr)(c m:Nat)(i:FuncId)(j:List Value)(H:Heap)(K:KT):Prop:=
 IF (!decide ((b:Int)=(c:Int))) (
 K (.bool false) H) (
 ∃(a:Int→Heap→Prop) (k:Int→Heap→Nat),a 0 H∧
 ∀d e,a d e→q0n.l1 f b g c i j K a k d e)
theorem q0n.call {a b c d e f g i H K:_}(hK:q0n.code a b c d e f g i H K):CF 205 ⟨[.slice a b c,.slice d e f,.func (.func g) #[] ⟨i⟩]⟩ H K:=
 cE Tryz.func205 (.r (.seq (.r (.cond (.r .no) .no)) (.seq (.r (.blk (.loop [(17,.one (.int .i64))] (.r (.seq (.cond .no .no) (.seq (.blk (.r (.r (.r (.cond (.r .no) .no))))) .reg)))))) (.r .no)))) hK
def qaf.code (t u v f3 w x y z aa ab:Int)(ac:Option Addr)(ad ae:Nat)(af:ByteArray)(ag:Option Addr)(ah ai:Nat)(aj:Option Addr)(ak al:Nat)(H:Heap)(K:KT):Prop:=
 AL H [I64 t,I64 u,I64 v,I64 f3,I64 w,I64 x,I64 y,I64 z,I64 aa,I64 ab,.slice ac ad ae,.string af,.slice ag ah ai,.slice aj ak al] 104 fun b am=>
 AL am [I64 0,I64 0,I64 0,I64 0,I64 0,I64 0,I64 0] 314 fun r a=>
 ∃c,q00 a b 3=some (I64 c)∧
 ∃d,q00 a b 4=some (I64 d)∧
 ∃e,q00 a b 5=some (I64 e)∧
 ∃f,q00 a b 6=some (I64 f)∧
 ∃g,q00 a b 7=some (I64 g)∧
 ∃i,q00 a b 8=some (I64 i)∧
 ∃j,q00 a b 9=some (I64 j)∧
 ST a r 0 [I64 c,I64 d,I64 e,I64 f,I64 g,I64 i,I64 j] fun s=>
 ∃k l m n o p q,q01 s r 0 [I64 k,I64 l,I64 m,I64 n,I64 o,I64 p,I64 q]∧
 K (.agg #[I64 k,I64 l,I64 m,I64 n,I64 o,I64 p,I64 q]) s
theorem qaf.call {a b c d e f g i j k l m n o p q s t u v H K:_}(hK:qaf.code a b c d e f g i j k l m n o p q s t u v H K):CF 204 ⟨[.agg #[I64 a,I64 b,I64 c,I64 d,I64 e,I64 f,I64 g,I64 i,I64 j,I64 k,.slice l m n,.string o,.slice p q s,.slice t u v]]⟩ H K:=
 cE Tryz.func204 (.r (.r .no)) hK
def q2v.r1 (K:KT)(d:Int→Heap→Prop)(c:Int→Heap→Nat)(a:Int)(e:Heap)(f:Bool)(b:Heap):Prop:=
 IF f (
 K (.bool false) b) (
 d (i64.wrap (a+1)) b∧c (i64.wrap (a+1)) b < c a e)
def q2v.l2 (K:KT)(d:Nat)(l:Int→Heap→Prop)(m:Int→Heap→Nat)(a:Int)(b:Heap):Prop:=
 ∃f,q00 b d 1=some (.string f)∧
 IF (decide (a < (f.size:Int))) (
 ∃c,q00 b d 1=some (.string c)∧
 ((0:Int)≤a∧a < (c.size:Int))∧
 ∀e:Bool→Heap→Prop,(∀g i,q2v.r1 K l m a b g i→e g i)→
 ((((decide ((bAt c a.toNat) < 33)) || (decide (126 < (bAt c a.toNat))))=false)→
 CF 228 #[(.string (⟨#[44,61,123,125]⟩:ByteArray)),.int .u8 (bAt c a.toNat)] b fun n o=>∃j,n=(I64 j)∧
 e (decide (0≤j)) o)∧
 (¬(((decide ((bAt c a.toNat) < 33)) || (decide (126 < (bAt c a.toNat))))=false)→
 e true b)) (
 ∃k,q00 b d 0=some (.string k)∧
 ∃r1,CQ 202 #[.string k] b (.bool r1)∧
 K (.bool r1) b)
def q2v.code (g i:ByteArray)(H:Heap)(K:KT):Prop:=
 AL H [.string g,.string i] 267 fun f b=>
 ∃c,q00 b f 1=some (.string c)∧
 IF (decide (64 < (c.size:Int))) (
 K (.bool false) b) (
 ∃(a:Int→Heap→Prop) (j:Int→Heap→Nat),a 0 b∧
 ∀d e,a d e→q2v.l2 K f a j d e)
theorem q2v.call {a b H K:_}(hK:q2v.code a b H K):CF 203 ⟨[.agg #[.string a,.string b]]⟩ H K:=
 cE Tryz.func203 (.r (.seq (.r (.cond (.r .no) .no)) (.seq (.r (.blk (.loop [(3,.one (.int .i64))] (.seq (.r (.cond .no .no)) (.seq (.blk (.r (.seq (.regJ [(30,.one (.bool))]) (.cond (.r .no) .no)))) .reg))))) (.r .no)))) hK
def q50.l1 (b:ByteArray)(K:KT)(e:Int→Heap→Prop)(d:Int→Heap→Nat)(a:Int)(c:Heap):Prop:=
 IF (decide (a < (b.size:Int))) (
 ((0:Int)≤a∧a < (b.size:Int))∧
 IF ((((decide ((bAt b a.toNat) < 97)) || (decide (122 < (bAt b a.toNat)))) && ((decide ((bAt b a.toNat) < 48)) || (decide (57 < (bAt b a.toNat))))) && (!decide ((bAt b a.toNat)=95))) (
 K (.bool false) c) (
 e (i64.wrap (a+1)) c∧d (i64.wrap (a+1)) c < d a c)) (
 K (.bool true) c)
def q50.code (a:ByteArray)(H:Heap)(K:KT):Prop:=
 ((((decide ((a.size:Int) < 1)) || (decide (64 < (a.size:Int))))=false)→((0:Int)≤0∧0 < (a.size:Int)))∧
 (((((decide ((a.size:Int) < 1)) || (decide (64 < (a.size:Int)))) || (decide ((bAt a 0) < 97)))=false)→((0:Int)≤0∧0 < (a.size:Int)))∧
 IF ((((decide ((a.size:Int) < 1)) || (decide (64 < (a.size:Int)))) || (decide ((bAt a 0) < 97))) || (decide (122 < (bAt a 0)))) (
 K (.bool false) H) (
 ∃(b:Int→Heap→Prop) (e:Int→Heap→Nat),b 0 H∧
 ∀c d,b c d→q50.l1 a K b e c d)
theorem q50.call {a H K:_}(hK:q50.code a H K):CF 202 ⟨[.string a]⟩ H K:=
 cE Tryz.func202 (.r (.seq (.r (.cond (.r .no) .no)) (.seq (.r (.blk (.loop [(3,.one (.int .i64))] (.seq (.r (.cond .no .no)) (.seq (.blk (.r (.r (.cond (.r .no) .no)))) .reg))))) (.r .no)))) hK
def q1e.l1 (K:KT)(i:Nat)(j:Option Addr)(k v:Nat)(w:Option Addr)(l:Nat)(x:Int→Heap→Prop)(m:Int→Heap→Nat)(a:Int)(c:Heap):Prop:=
 IF (decide (a < (l:Int))) (
 ((0:Int)≤a∧a < (l:Int))∧∃p q:Nat,(w=some ⟨p,q,none⟩)∧
 ∃n o,q01 c p (q+a.toNat*2) [.string n,.string o]∧
 AL c [(.string (⟨#[]⟩:ByteArray)),(.string (⟨#[]⟩:ByteArray))] 267 fun f y=>
 ST y f 0 [.string n,.string o] fun g=>
 ∃d,q00 g f 0=some (.string d)∧
 (((d.size+(⟨#[61]⟩:ByteArray).size:Nat):Int)≤i64.max)∧
 ∃e,q00 g f 1=some (.string e)∧
 ((((d++(⟨#[61]⟩:ByteArray)).size+e.size:Nat):Int)≤i64.max)∧
 ((0:Int)≤a∧a < (k:Int))∧∃r s:Nat,(j=some ⟨r,s,none⟩)∧
 ST g r (s+a.toNat) [(.string ((d++(⟨#[61]⟩:ByteArray))++e))] fun t=>
 x (i64.wrap (a+1)) t∧m (i64.wrap (a+1)) t < m a c) (
 ∃b,q00 c i 0=some (.string b)∧
 (((b.size+(⟨#[123]⟩:ByteArray).size:Nat):Int)≤i64.max)∧
 CF 220 #[.slice j k v,(.string (⟨#[44]⟩:ByteArray))] c fun z u=>∃r1,z=(.string r1)∧
 q00 u i 0=some (.string b)∧
 ((((b++(⟨#[123]⟩:ByteArray)).size+r1.size:Nat):Int)≤i64.max)∧
 (((((b++(⟨#[123]⟩:ByteArray))++r1).size+(⟨#[125]⟩:ByteArray).size:Nat):Int)≤i64.max)∧
 K (.string (((b++(⟨#[123]⟩:ByteArray))++r1)++(⟨#[125]⟩:ByteArray))) u)
def q1e.code (u:ByteArray)(v:Option Addr)(w x:Nat)(H:Heap)(K:KT):Prop:=
 AL H [.string u,.slice v w x] 93 fun a s=>
 ∃c0 f g i,q01 s a 0 [.string c0,.slice f g i]∧
 CF 164 #[.agg #[.string c0,.slice f g i]] s fun ae b=>∃j,ae=(.bool j)∧
 IF (!j) (
 K (.string (⟨#[]⟩:ByteArray)) b) (
 ∃z e aa,q00 b a 1=some (.slice z e aa)∧
 IF (decide ((e:Int)=0)) (
 ∃k,q00 b a 0=some (.string k)∧
 K (.string k) b) (
 ∃ab c ac,q00 b a 1=some (.slice ab c ac)∧
 RunW Tryz.prog (Instr.makeSlice 294 (I64 (c:Int)) (I64 (c:Int))) b fun af t=>
 ∃l m n,af=(.slice l m n)∧
 ∃o p ad,q00 t a 1=some (.slice o p ad)∧
 ∃(d:Int→Heap→Prop) (y:Int→Heap→Nat),d 0 t∧
 ∀q r,d q r→q1e.l1 K a l m n o p d y q r))
theorem q1e.call {a b c d H K:_}(hK:q1e.code a b c d H K):CF 190 ⟨[.agg #[.string a,.slice b c d]]⟩ H K:=
 cE Tryz.func190 (.r (.seq (.r (.cond (.r .no) .no)) (.seq (.r (.cond (.r .no) .no)) (.r (.seq (.r (.blk (.loop [(22,.one (.int .i64))] (.r (.seq (.cond .no .no) (.seq (.blk (.r .reg)) .reg)))))) (.r .no)))))) hK
def q7g.code (c d:ByteArray)(H:Heap)(K:KT):Prop:=
 CF 210 #[.string c,.string d,I64 0] H fun e f=>∃a b,e=(.func (.func a) #[] ⟨b⟩)∧
 K (.func (.func a) #[] ⟨b⟩) f
theorem q7g.call {a b H K:_}(hK:q7g.code a b H K):CF 172 ⟨[.string a,.string b]⟩ H K:=
 cE Tryz.func172 (.r (.r .no)) hK
def q6h.code (b c:ByteArray)(H:Heap)(K:KT):Prop:=
 ∃a r1,CQ 209 #[.string b,.string c] H (.tuple #[.string a,.bool r1])∧
 K (.tuple #[.string a,.bool r1]) H
theorem q6h.call {a b H K:_}(hK:q6h.code a b H K):CF 171 ⟨[.string a,.string b]⟩ H K:=
 cE Tryz.func171 (.r (.r .no)) hK
def qdy.code (b c:ByteArray)(H:Heap)(K:KT):Prop:=
 CF 208 #[.string b,.string c] H fun d e=>∃a r1 r2,d=(.tuple #[.string a,.string r1,.bool r2])∧
 K (.tuple #[.string a,.string r1,.bool r2]) e
theorem qdy.call {a b H K:_}(hK:qdy.code a b H K):CF 170 ⟨[.string a,.string b]⟩ H K:=
 cE Tryz.func170 (.r (.r .no)) hK
def q6i.r1 (K:KT)(a:Bool)(b:Heap):Prop:=
 K (.bool a) b
def q6i.code (em en eo ep eq er es et eu ev:Int)(ew:Option Addr)(ex ey:Nat)(ez:ByteArray)(e1:Option Addr)(e2 e3:Nat)(e4:Option Addr)(e5 e6:Nat)(e7 e8 e9 fa fb fc fd fe ff fg:Int)(fh:Option Addr)(fi fj:Nat)(fk:ByteArray)(fl:Option Addr)(fm fn:Nat)(fo:Option Addr)(fp fq:Nat)(H:Heap)(K:KT):Prop:=
 AL H [I64 em,I64 en,I64 eo,I64 ep,I64 eq,I64 er,I64 es,I64 et,I64 eu,I64 ev,.slice ew ex ey,.string ez,.slice e1 e2 e3,.slice e4 e5 e6] 104 fun c fr=>
 AL fr [I64 e7,I64 e8,I64 e9,I64 fa,I64 fb,I64 fc,I64 fd,I64 fe,I64 ff,I64 fg,.slice fh fi fj,.string fk,.slice fl fm fn,.slice fo fp fq] 104 fun a d=>
 ∀b:Bool→Heap→Prop,(∀an ao,q6i.r1 K an ao→b an ao)→
 ∃c0 ap aq,q01 d c 0 [I64 c0,I64 ap,I64 aq]∧
 ∃ar au av,q01 d a 0 [I64 ar,I64 au,I64 av]∧
 ∃f:Bool,q7d Tryz.prog .eql 102 (.agg #[I64 c0,I64 ap,I64 aq]) (.agg #[I64 ar,I64 au,I64 av]) f∧
 ∃aw ax ay az a0 a1 a2 a3 a4 a5 a6 a7 a8 a9 ba bb bc bd be bf,((f=true)→q01 d c 0 [I64 aw,I64 ax,I64 ay,I64 az,I64 a0,I64 a1,I64 a2,I64 a3,I64 a4,I64 a5,.slice a6 a7 a8,.string a9,.slice ba bb bc,.slice bd be bf])∧
 ∃p q r s t u v w x y z aa ab ac ad ae af ag ah ai,((f=true)→q01 d a 0 [I64 p,I64 q,I64 r,I64 s,I64 t,I64 u,I64 v,I64 w,I64 x,I64 y,.slice z aa ab,.string ac,.slice ad ae af,.slice ag ah ai])∧
 ((f=true)→
 CF 204 #[.agg #[I64 aw,I64 ax,I64 ay,I64 az,I64 a0,I64 a1,I64 a2,I64 a3,I64 a4,I64 a5,.slice a6 a7 a8,.string a9,.slice ba bb bc,.slice bd be bf]] d fun fs el=>∃bg r1 r2 r3 r4 r5 r6,fs=(.agg #[I64 bg,I64 r1,I64 r2,I64 r3,I64 r4,I64 r5,I64 r6])∧
 ((f=true)→q01 el a 0 [I64 p,I64 q,I64 r,I64 s,I64 t,I64 u,I64 v,I64 w,I64 x,I64 y,.slice z aa ab,.string ac,.slice ad ae af,.slice ag ah ai])∧
 CF 204 #[.agg #[I64 p,I64 q,I64 r,I64 s,I64 t,I64 u,I64 v,I64 w,I64 x,I64 y,.slice z aa ab,.string ac,.slice ad ae af,.slice ag ah ai]] el fun ft e=>∃bh bi bj bk bl bm bn,ft=(.agg #[I64 bh,I64 bi,I64 bj,I64 bk,I64 bl,I64 bm,I64 bn])∧
 ∃o:Bool,q7d Tryz.prog .eql 314 (.agg #[I64 bg,I64 r1,I64 r2,I64 r3,I64 r4,I64 r5,I64 r6]) (.agg #[I64 bh,I64 bi,I64 bj,I64 bk,I64 bl,I64 bm,I64 bn]) o∧
 ∃bo bp bq,((o=true)→q00 e c 10=some (.slice bo bp bq))∧
 ∃br bs bt,((o=true)→q00 e a 10=some (.slice br bs bt))∧
 ((o=true)→
 CF 205 #[.slice bo bp bq,.slice br bs bt,.func (.func 206) #[] #[]] e fun fu g=>∃j,fu=(.bool j)∧
 ∃bu bv bw bx,((j=true)→q01 g c 11 [.string bu,.slice bv bw bx])∧
 ∃bz b0 b1 b2,((j=true)→q01 g a 11 [.string bz,.slice b0 b1 b2])∧
 ((j=true)→
 CF 207 #[.agg #[.string bu,.slice bv bw bx],.agg #[.string bz,.slice b0 b1 b2]] g fun fv aj=>∃r7,fv=(I64 r7)∧
 ∃b3 b4 b5,(((decide (r7=0))=true)→q00 aj c 13=some (.slice b3 b4 b5))∧
 ∃b6 b7 b8,(((decide (r7=0))=true)→q00 aj a 13=some (.slice b6 b7 b8))∧
 (((decide (r7=0))=true)→
 CF 51 #[.slice b3 b4 b5,.slice b6 b7 b8] aj fun fw fx=>∃b9,fw=(.bool b9)∧
 b b9 fx)∧
 (¬((decide (r7=0))=true)→
 b false aj))∧
 (¬(j=true)→
 ∃ca cb cc,((false=true)→q00 g c 13=some (.slice ca cb cc))∧
 ∃cd ce cf,((false=true)→q00 g a 13=some (.slice cd ce cf))∧
 ((false=true)→
 CF 51 #[.slice ca cb cc,.slice cd ce cf] g fun fy fz=>∃cg,fy=(.bool cg)∧
 b cg fz)∧
 (¬(false=true)→
 b false g)))∧
 (¬(o=true)→
 ∃ch ci cj ck,((false=true)→q01 e c 11 [.string ch,.slice ci cj ck])∧
 ∃cl cm cn co,((false=true)→q01 e a 11 [.string cl,.slice cm cn co])∧
 ((false=true)→
 CF 207 #[.agg #[.string ch,.slice ci cj ck],.agg #[.string cl,.slice cm cn co]] e fun f0 ak=>∃k,f0=(I64 k)∧
 ∃cp cq cr,(((decide (k=0))=true)→q00 ak c 13=some (.slice cp cq cr))∧
 ∃cs ct cu,(((decide (k=0))=true)→q00 ak a 13=some (.slice cs ct cu))∧
 (((decide (k=0))=true)→
 CF 51 #[.slice cp cq cr,.slice cs ct cu] ak fun f1 f2=>∃cv,f1=(.bool cv)∧
 b cv f2)∧
 (¬((decide (k=0))=true)→
 b false ak))∧
 (¬(false=true)→
 ∃cw cx cy,((false=true)→q00 e c 13=some (.slice cw cx cy))∧
 ∃cz c1 c2,((false=true)→q00 e a 13=some (.slice cz c1 c2))∧
 ((false=true)→
 CF 51 #[.slice cw cx cy,.slice cz c1 c2] e fun f4 f5=>∃c3,f4=(.bool c3)∧
 b c3 f5)∧
 (¬(false=true)→
 b false e))))∧
 (¬(f=true)→
 ((f=true)→q01 d a 0 [I64 p,I64 q,I64 r,I64 s,I64 t,I64 u,I64 v,I64 w,I64 x,I64 y,.slice z aa ab,.string ac,.slice ad ae af,.slice ag ah ai])∧
 ∃c4 c5 c6,((false=true)→q00 d c 10=some (.slice c4 c5 c6))∧
 ∃c7 c8 c9,((false=true)→q00 d a 10=some (.slice c7 c8 c9))∧
 ((false=true)→
 CF 205 #[.slice c4 c5 c6,.slice c7 c8 c9,.func (.func 206) #[] #[]] d fun f6 i=>∃l,f6=(.bool l)∧
 ∃da db dc dd,((l=true)→q01 i c 11 [.string da,.slice db dc dd])∧
 ∃de df dg dh,((l=true)→q01 i a 11 [.string de,.slice df dg dh])∧
 ((l=true)→
 CF 207 #[.agg #[.string da,.slice db dc dd],.agg #[.string de,.slice df dg dh]] i fun f7 al=>∃m,f7=(I64 m)∧
 ∃di dj dk,(((decide (m=0))=true)→q00 al c 13=some (.slice di dj dk))∧
 ∃dl dm dp,(((decide (m=0))=true)→q00 al a 13=some (.slice dl dm dp))∧
 (((decide (m=0))=true)→
 CF 51 #[.slice di dj dk,.slice dl dm dp] al fun f8 f9=>∃dq,f8=(.bool dq)∧
 b dq f9)∧
 (¬((decide (m=0))=true)→
 b false al))∧
 (¬(l=true)→
 ∃dr ds dt,((false=true)→q00 i c 13=some (.slice dr ds dt))∧
 ∃du dv dw,((false=true)→q00 i a 13=some (.slice du dv dw))∧
 ((false=true)→
 CF 51 #[.slice dr ds dt,.slice du dv dw] i fun ga gb=>∃dx,ga=(.bool dx)∧
 b dx gb)∧
 (¬(false=true)→
 b false i)))∧
 (¬(false=true)→
 ∃dz d0 d1 d2,((false=true)→q01 d c 11 [.string dz,.slice d0 d1 d2])∧
 ∃d3 d4 d5 d6,((false=true)→q01 d a 11 [.string d3,.slice d4 d5 d6])∧
 ((false=true)→
 CF 207 #[.agg #[.string dz,.slice d0 d1 d2],.agg #[.string d3,.slice d4 d5 d6]] d fun gc am=>∃n,gc=(I64 n)∧
 ∃d7 d8 d9,(((decide (n=0))=true)→q00 am c 13=some (.slice d7 d8 d9))∧
 ∃ea eb ec,(((decide (n=0))=true)→q00 am a 13=some (.slice ea eb ec))∧
 (((decide (n=0))=true)→
 CF 51 #[.slice d7 d8 d9,.slice ea eb ec] am fun gd ge=>∃ed,gd=(.bool ed)∧
 b ed ge)∧
 (¬((decide (n=0))=true)→
 b false am))∧
 (¬(false=true)→
 ∃ee ef eg,((false=true)→q00 d c 13=some (.slice ee ef eg))∧
 ∃eh ei ej,((false=true)→q00 d a 13=some (.slice eh ei ej))∧
 ((false=true)→
 CF 51 #[.slice ee ef eg,.slice eh ei ej] d fun gf gg=>∃ek,gf=(.bool ek)∧
 b ek gg)∧
 (¬(false=true)→
 b false d))))
theorem q6i.call {a b c d e f g i j k l m n o p q s t u v w x y z aa ab ac ad ae af ag ah ai aj ak al am an ao ap H K:_}(hK:q6i.code a b c d e f g i j k l m n o p q s t u v w x y z aa ab ac ad ae af ag ah ai aj ak al am an ao ap H K):CF 165 ⟨[.agg #[I64 a,I64 b,I64 c,I64 d,I64 e,I64 f,I64 g,I64 i,I64 j,I64 k,.slice l m n,.string o,.slice p q s,.slice t u v],.agg #[I64 w,I64 x,I64 y,I64 z,I64 aa,I64 ab,I64 ac,I64 ad,I64 ae,I64 af,.slice ag ah ai,.string aj,.slice ak al am,.slice an ao ap]]⟩ H K:=
 cE Tryz.func165 (.r (.seq (.regJ [(4,.one (.bool))]) .no)) hK
def q12.l1 (K:KT)(t:Nat)(u:Option Addr)(e:Nat)(v:Int→Heap→Prop)(f:Int→Heap→Nat)(a:Int)(c:Heap):Prop:=
 IF (decide (a < (e:Int))) (
 ((0:Int)≤a∧a < (e:Int))∧∃o p:Nat,(u=some ⟨o,p,none⟩)∧
 ∃c0 i,q01 c o (p+a.toNat*2) [.string c0,.string i]∧
 AL c [(.string (⟨#[]⟩:ByteArray)),(.string (⟨#[]⟩:ByteArray))] 267 fun d x=>
 ST x d 0 [.string c0,.string i] fun s=>
 ∃j k,q01 s d 0 [.string j,.string k]∧
 CF 203 #[.agg #[.string j,.string k]] s fun y b=>∃r1,y=(.bool r1)∧
 ∃l g w,((((!r1)=false)∧(decide (0 < a))=true)→q00 b t 1=some (.slice l g w))∧
 ((((!r1)=false)∧(decide (0 < a))=true)→((0:Int)≤(i64.wrap (a - 1))∧(i64.wrap (a - 1)) < (g:Int)))∧∃q r:Nat,((((!r1)=false)∧(decide (0 < a))=true)→(l=some ⟨q,r,none⟩))∧
 ∃m,((((!r1)=false)∧(decide (0 < a))=true)→q00 b q (r+(i64.wrap (a - 1)).toNat*2)=some (.string m))∧
 ∃n,((((!r1)=false)∧(decide (0 < a))=true)→q00 b d 0=some (.string n))∧
 IF ((!r1) || ((decide (0 < a)) && (!Op.bytesLess m.toList n.toList))) (
 K (.bool false) b) (
 v (i64.wrap (a+1)) b∧f (i64.wrap (a+1)) b < f a c)) (
 K (.bool true) c)
def q12.code (l:ByteArray)(m:Option Addr)(n o:Nat)(H:Heap)(K:KT):Prop:=
 AL H [.string l,.slice m n o] 93 fun b a=>
 ∃f,q00 a b 0=some (.string f)∧
 ∃d,CQ 202 #[.string f] a (.bool d)∧
 ∃q e r,(((!d)=false)→q00 a b 1=some (.slice q e r))∧
 IF ((!d) || (decide (8 < (e:Int)))) (
 K (.bool false) a) (
 ∃g i s,q00 a b 1=some (.slice g i s)∧
 ∃(c:Int→Heap→Prop) (p:Int→Heap→Nat),c 0 a∧
 ∀j k,c j k→q12.l1 K b g i c p j k)
theorem q12.call {a b c d H K:_}(hK:q12.code a b c d H K):CF 164 ⟨[.agg #[.string a,.slice b c d]]⟩ H K:=
 cE Tryz.func164 (.r (.seq (.r (.cond (.r .no) .no)) (.seq (.r (.blk (.loop [(18,.one (.int .i64))] (.r (.seq (.cond .no .no) (.seq (.blk (.r (.r (.cond (.r .no) .no)))) .reg)))))) (.r .no)))) hK
def q2w.r1 (K:KT)(d:Int→Heap→Prop)(c:Int→Heap→Nat)(a:Int)(e:Heap)(f:Bool)(b:Heap):Prop:=
 IF f (
 K (.bool false) b) (
 d (i64.wrap (a+1)) b∧c (i64.wrap (a+1)) b < c a e)
def q2w.l2 (x:Option Addr)(i:Nat)(K:KT)(y:Int→Heap→Prop)(z:Int→Heap→Nat)(a:Int)(d:Heap):Prop:=
 IF (decide (a < (i:Int))) (
 ((0:Int)≤a∧a < (i:Int))∧∃v w:Nat,(x=some ⟨v,w,none⟩)∧
 ∃c0 j k l m n,q01 d v (w+a.toNat*4) [I64 c0,I64 j,.string k,.slice l m n]∧
 AL d [I64 0,I64 0,(.string (⟨#[]⟩:ByteArray)),.slice none 0 0] 95 fun f aa=>
 ST aa f 0 [I64 c0,I64 j,.string k,.slice l m n] fun c=>
 ∀g:Bool→Heap→Prop,(∀o p,q2w.r1 K y z a d o p→g o p)→
 ∃b,q00 c f 0=some (I64 b)∧
 ∃e,(((decide (b < 0))=false)→q00 c f 0=some (I64 e))∧
 ∃q r s t,((((decide (b < 0)) || (decide (4611686018427387903 < e)))=false)→q01 c f 2 [.string q,.slice r s t])∧
 ((((decide (b < 0)) || (decide (4611686018427387903 < e)))=false)→
 CF 164 #[.agg #[.string q,.slice r s t]] c fun ab ac=>∃u,ab=(.bool u)∧
 g (!u) ac)∧
 (¬(((decide (b < 0)) || (decide (4611686018427387903 < e)))=false)→
 g true c)) (
 K (.bool true) d)
def q2w.code (e:Int)(f:Option Addr)(a i:Nat)(H:Heap)(K:KT):Prop:=
 IF (((decide ((a:Int) < 1)) || (decide (64 < (a:Int)))) || (decide ((i64.wrap (1099511627776 - (a:Int))) < e))) (
 K (.bool false) H) (
 ∃(b:Int→Heap→Prop) (g:Int→Heap→Nat),b 0 H∧
 ∀c d,b c d→q2w.l2 f a K b g c d)
theorem q2w.call {a b c d H K:_}(hK:q2w.code a b c d H K):CF 163 ⟨[I64 a,.slice b c d]⟩ H K:=
 cE Tryz.func163 (.r (.seq (.r (.cond (.r .no) .no)) (.seq (.r (.blk (.loop [(24,.one (.int .i64))] (.r (.seq (.cond .no .no) (.seq (.blk (.r (.seq (.regJ [(41,.one (.bool))]) (.cond (.r .no) .no)))) .reg)))))) (.r .no)))) hK
def q42.r1 (a b:Nat)(K:KT)(d:Int)(e:Bool)(c:Heap):Prop:=
 IF e (
 AL c [PA a (b+1),PA a (b+2),PA a (b+7)] 177 fun f g=>
 K (.slice (some ⟨f,0,none⟩) 3 3) g) (
 IF (decide (d=7)) (
 AL c [PA a (b+1),PA a (b+2),PA a (b+7),PA a (b+8)] 177 fun i j=>
 K (.slice (some ⟨i,0,none⟩) 4 4) j) (
 IF (decide (d=8)) (
 AL c [PA a (b+9)] 177 fun k l=>
 K (.slice (some ⟨k,0,none⟩) 1 1) l) (
 K (.slice none 0 0) c)))
def q42.code (a b:Nat)(H:Heap)(K:KT):Prop:=
 ∃c,q00 H a b=some (I64 c)∧
 IF (decide (c=1)) (
 AL H [PA a (b+1),PA a (b+3)] 177 fun g i=>
 K (.slice (some ⟨g,0,none⟩) 2 2) i) (
 IF (decide (c=2)) (
 AL H [PA a (b+1),PA a (b+3),PA a (b+2)] 177 fun j k=>
 K (.slice (some ⟨j,0,none⟩) 3 3) k) (
 IF (decide (c=3)) (
 AL H [PA a (b+1),PA a (b+3),PA a (b+4)] 177 fun l m=>
 K (.slice (some ⟨l,0,none⟩) 3 3) m) (
 IF (decide (c=4)) (
 AL H [PA a (b+1),PA a (b+2),PA a (b+3),PA a (b+4),PA a (b+5),PA a (b+6)] 177 fun n o=>
 K (.slice (some ⟨n,0,none⟩) 6 6) o) (
 ∀d:Bool→Heap→Prop,(∀e f,q42.r1 a b K c e f→d e f)→
 IF (decide (c=5)) (
 d (decide (c=5)) H) (
 d (decide (c=6)) H)))))
theorem q42.call {a b H K:_}(hK:q42.code a b H K):CF 162 ⟨[PA a b]⟩ H K:=
 cE Tryz.func162 (.r (.seq (.r (.blk (.r (.cond (.r .no) (.r (.cond (.r .no) (.r (.cond (.r .no) (.r (.cond (.r .no) (.seq (.r (.condJ [(68,.one (.bool))] .no .reg)) (.cond (.r .no) (.r (.cond (.r .no) (.r (.cond (.r .no) .no)))))))))))))))) (.r .no))) hK
def q0k.l1 (K:KT)(x:Option Addr)(l:Nat)(y:(Option Addr)→Nat→Nat→Int→Heap→Prop)(m:(Option Addr)→Nat→Nat→Int→Heap→Nat)(c:Option Addr)(d e:Nat)(a:Int)(b:Heap):Prop:=
 IF (decide (a < (l:Int))) (
 ((0:Int)≤a∧a < (l:Int))∧∃u v:Nat,(x=some ⟨u,v,none⟩)∧
 ∃n o,q01 b u (v+a.toNat*2) [.string n,.string o]∧
 AL b [(.string (⟨#[]⟩:ByteArray)),(.string (⟨#[]⟩:ByteArray))] 267 fun j z=>
 ST z j 0 [.string n,.string o] fun k=>
 ∃p,q00 k j 0=some (.string p)∧
 ∃q,q00 k j 1=some (.string q)∧
 AL k [.string p,.string q] 9 fun aa ab=>
 CF 132 #[.slice (some ⟨aa,0,none⟩) 2 2] ab fun ac ad=>∃r s t,ac=(.slice r s t)∧
 RunW Tryz.prog (Builtin.append_ #[24,24] 24 #[.slice c d e,.slice r s t]) ad fun ae w=>
 ∃f g i,ae=(.slice f g i)∧
 y f g i (i64.wrap (a+1)) w∧m f g i (i64.wrap (a+1)) w < m c d e a b) (
 K (.slice c d e) b)
def q0k.r2 (K:KT)(k:Nat)(l:Option Addr)(m n:Nat)(b:Heap):Prop:=
 ∃g i p,q00 b k 1=some (.slice g i p)∧
 ∃(a:(Option Addr)→Nat→Nat→Int→Heap→Prop) (o:(Option Addr)→Nat→Nat→Int→Heap→Nat),a l m n 0 b∧
 ∀(c:Option Addr) (d:Nat) (e:Nat) (f:Int),∀j:Heap,a c d e f j→q0k.l1 K g i a o c d e f j
def q0k.code (ay:ByteArray)(az:Option Addr)(a0 a1:Nat)(H:Heap)(K:KT):Prop:=
 AL H [.string ay,.slice az a0 a1] 93 fun a au=>
 ∃c0 m n o,q01 au a 0 [.string c0,.slice m n o]∧
 CF 164 #[.agg #[.string c0,.slice m n o]] au fun a2 c=>∃p,a2=(.bool p)∧
 IF (!p) (
 K (.slice none 0 0) c) (
 ∀e:(Option Addr)→Nat→Nat→Heap→Prop,(∀(j:Option Addr) (k:Nat) (l:Nat),∀ar:Heap,q0k.r2 K a j k l ar→e j k l ar)→
 ∃d,q00 c a 0=some (.string d)∧
 ∃f b g,q00 c a 1=some (.slice f b g)∧
 (AL c [.string d] 9 fun av i=>
 q00 i a 1=some (.slice f b g)∧
 (CF 132 #[.slice (some ⟨av,0,none⟩) 1 1] i fun a3 aw=>∃q r s,a3=(.slice q r s)∧
 q00 aw a 1=some (.slice f b g)∧
 AL aw [(.int .u64 (u64.wrap (b:Int)))] 56 fun a4 a5=>
 CF 117 #[.slice (some ⟨a4,0,none⟩) 1 1] a5 fun a6 a7=>∃t u v,a6=(.slice t u v)∧
 RunW Tryz.prog (Builtin.append_ #[24,24] 24 #[.slice q r s,.slice t u v]) a7 fun a8 a9=>
 ∃w x y,a8=(.slice w x y)∧
 e w x y a9)∧
 (AL i [(.int .u64 (u64.wrap (b:Int)))] 56 fun ba bb=>
 CF 132 #[.slice (some ⟨av,0,none⟩) 1 1] bb fun bc bd=>∃z aa ab,bc=(.slice z aa ab)∧
 CF 117 #[.slice (some ⟨ba,0,none⟩) 1 1] bd fun be bf=>∃ac ad ae,be=(.slice ac ad ae)∧
 RunW Tryz.prog (Builtin.append_ #[24,24] 24 #[.slice z aa ab,.slice ac ad ae]) bf fun bg bh=>
 ∃af ag ah,bg=(.slice af ag ah)∧
 e af ag ah bh))∧
 (AL c [(.int .u64 (u64.wrap (b:Int)))] 56 fun bi ax=>
 q00 ax a 0=some (.string d)∧
 AL ax [.string d] 9 fun bj bk=>
 CF 132 #[.slice (some ⟨bj,0,none⟩) 1 1] bk fun bl bm=>∃ai aj ak,bl=(.slice ai aj ak)∧
 CF 117 #[.slice (some ⟨bi,0,none⟩) 1 1] bm fun bn bo=>∃al am an,bn=(.slice al am an)∧
 RunW Tryz.prog (Builtin.append_ #[24,24] 24 #[.slice ai aj ak,.slice al am an]) bo fun bp bq=>
 ∃ao ap aq,bp=(.slice ao ap aq)∧
 e ao ap aq bq))
theorem q0k.call {a b c d H K:_}(hK:q0k.code a b c d H K):CF 161 ⟨[.agg #[.string a,.slice b c d]]⟩ H K:=
 cE Tryz.func161 (.r (.seq (.r (.cond (.r .no) .no)) (.seq (.regJ [(3,.one (.slice))]) (.seq (.r (.blk (.loop [(3,.one (.slice)),(23,.one (.int .i64))] (.r (.seq (.cond .no .no) (.seq (.blk (.r .reg)) .reg)))))) (.r .no))))) hK
def q6j.l1 (i j:Nat)(K:KT)(a b:Nat)(r1:Int)(ap:Int→Heap→Prop)(l:Int→Heap→Nat)(d:Int)(c:Heap):Prop:=
 IF (decide (d < r1)) (
 CF 110 #[PA i j,I64 64] c fun aq ai=>∃r2,aq=(.string r2)∧
 ∃e f g,q00 ai b 1=some (.slice e f g)∧
 CF 110 #[PA i j,I64 64] ai fun ar aj=>∃r3,ar=(.string r3)∧
 q00 aj b 1=some (.slice e f g)∧
 AL aj [.string r2,.string r3] 267 fun au ak=>
 q00 ak b 1=some (.slice e f g)∧
 RunW Tryz.prog (Builtin.append_ #[91,91] 91 #[.slice e f g,.slice (some ⟨au,0,none⟩) 1 1]) ak fun av aw=>
 ∃m n o,av=(.slice m n o)∧
 ST aw b 1 [.slice m n o] fun al=>
 ap (i64.wrap (d+1)) al∧l (i64.wrap (d+1)) al < l d c) (
 ∃r4,CQ 102 #[PA i j] c (I64 r4)∧
 IF (!decide (r4=0)) (
 ST c a 0 [(.string (⟨#[]⟩:ByteArray)),.slice none 0 0] fun am=>
 ∃p q r s,q01 am a 0 [.string p,.slice q r s]∧
 K (.tuple #[.agg #[.string p,.slice q r s],I64 r4]) am) (
 ∃c0 t u v,q01 c b 0 [.string c0,.slice t u v]∧
 CF 164 #[.agg #[.string c0,.slice t u v]] c fun ax k=>∃r5,ax=(.bool r5)∧
 IF (!r5) (
 ST k a 0 [(.string (⟨#[]⟩:ByteArray)),.slice none 0 0] fun an=>
 ∃w x y z,q01 an a 0 [.string w,.slice x y z]∧
 K (.tuple #[.agg #[.string w,.slice x y z],I64 10]) an) (
 ∃aa ab ac ad,q01 k b 0 [.string aa,.slice ab ac ad]∧
 ST k a 0 [.string aa,.slice ab ac ad] fun ao=>
 ∃ae af ag ah,q01 ao a 0 [.string ae,.slice af ag ah]∧
 K (.tuple #[.agg #[.string ae,.slice af ag ah],I64 0]) ao)))
def q6j.code (a b:Nat)(H:Heap)(K:KT):Prop:=
 AL H [(.string (⟨#[]⟩:ByteArray)),.slice none 0 0] 93 fun j k=>
 CF 110 #[PA a b,I64 64] k fun l m=>∃d,l=(.string d)∧
 AL m [(.string (⟨#[]⟩:ByteArray)),.slice none 0 0] 93 fun g n=>
 ST n g 0 [.string d,.slice none 0 0] fun o=>
 CF 103 #[PA a b,I64 8] o fun p q=>∃r1,p=(I64 r1)∧
 ∃(c:Int→Heap→Prop) (i:Int→Heap→Nat),c 0 q∧
 ∀e f,c e f→q6j.l1 a b K j g r1 c i e f
theorem q6j.call {a b H K:_}(hK:q6j.code a b H K):CF 160 ⟨[PA a b]⟩ H K:=
 cE Tryz.func160 (.r (.r (.seq (.r (.blk (.loop [(12,.one (.int .i64))] (.r (.seq (.cond .no .no) (.seq (.blk (.r .reg)) .reg)))))) (.seq (.r (.r (.cond (.r .no) .no))) (.seq (.r (.cond (.r .no) .no)) (.r .no)))))) hK
def q51.y1 (r s d:Nat)(a:Heap)(b:Loop)(t:List Value)(e:Heap)(K_:Value→Heap→Prop):Prop:=
 ∃g,t=[.string g]∧
 e[a.size+1]?=some (.loop b)∧
 e[a.size+1]?=some (.loop b)∧
 ∀i,i=q0q e (a.size+1) { b with state:=.busy }→
 CF 170 #[.string g,(.string (⟨#[61]⟩:ByteArray))] i fun w c=>∃r5 r6 r7,w=(.tuple #[.string r5,.string r6,.bool r7])∧
 ∃u f v,(((!r7)=false)→q00 c d 1=some (.slice u f v))∧
 IF ((!r7) || (decide ((f:Int)=8))) (
 ST c r 0 [(.string (⟨#[]⟩:ByteArray)),.slice none 0 0] fun x=>
 ST x s 0 [.bool false] fun p=>
 p[a.size+1]?=some (.loop { b with state:=.busy })∧K_ (.bool false) (q0q p (a.size+1) { b with state:=.done,pending:=some .ret })) (
 ∃j k l,q00 c d 1=some (.slice j k l)∧
 AL c [.string r5,.string r6] 267 fun y z=>
 RunW Tryz.prog (Builtin.append_ #[91,91] 91 #[.slice j k l,.slice (some ⟨y,0,none⟩) 1 1]) z fun aa ab=>
 ∃m n o,aa=(.slice m n o)∧
 ST ab d 1 [.slice m n o] fun q=>
 q[a.size+1]?=some (.loop { b with state:=.busy })∧K_ (.bool true) (q0q q (a.size+1) b))
def q51.code (bk:ByteArray)(H:Heap)(K:KT):Prop:=
 AL H [(.string (⟨#[]⟩:ByteArray)),.slice none 0 0] 93 fun b bl=>
 AL bl [.bool false] 4 fun c bm=>
 CF 170 #[.string bk,(.string (⟨#[123]⟩:ByteArray))] bm fun bn bo=>∃u r1 r2,bn=(.tuple #[.string u,.string r1,.bool r2])∧
 AL bo [(.string (⟨#[]⟩:ByteArray)),.slice none 0 0] 93 fun f bp=>
 ST bp f 0 [.string u,.slice none 0 0] fun g=>
 IF r2 (
 ∃r3 r4,CQ 171 #[.string r1,(.string (⟨#[125]⟩:ByteArray))] g (.tuple #[.string r3,.bool r4])∧
 IF (!r4) (
 ST g b 0 [(.string (⟨#[]⟩:ByteArray)),.slice none 0 0] fun bq=>
 ST bq c 0 [.bool false] fun m=>
 ∃v w x y,q01 m b 0 [.string v,.slice w x y]∧
 ∃z,q00 m c 0=some (.bool z)∧
 K (.tuple #[.agg #[.string v,.slice w x y],.bool z]) m) (
 CF 172 #[.string r3,(.string (⟨#[44]⟩:ByteArray))] g fun br a=>∃l aa,br=(.func (.func l) #[] ⟨aa⟩)∧
 memN l X.calls=true∧
 ∀e:Loop,e.state=.ready→e.pending=none→
 (∀(r:List Value) (s:Heap) (K_:Value→Heap→Prop),q51.y1 b c f a e r s K_→q33 Tryz.prog (a.size+1) r s K_)→
 CF l ⟨(.func (.yield (a.size+1)) #[] #[])::aa⟩ ((a.push (.deferred (some []))).push (.loop e)) fun bz bj=>∃(t:LoopState) (i:Option Code),t≠.busy∧bj[a.size+1]?=some (.loop { e with state:=t,pending:=i })∧
 ∀d,d=q0q bj (a.size+1) { e with state:=.exhausted,pending:=i }→
 ((i=none∧
 ∃c0 ab ac ad,q01 d f 0 [.string c0,.slice ab ac ad]∧
 CF 164 #[.agg #[.string c0,.slice ab ac ad]] d fun bs n=>∃ae,bs=(.bool ae)∧
 IF (!ae) (
 ST n b 0 [(.string (⟨#[]⟩:ByteArray)),.slice none 0 0] fun bt=>
 ST bt c 0 [.bool false] fun j=>
 j[a.size]?=some (.deferred (some []))∧
 ∃af ag ah ai,q01 (j.setIfInBounds a.size (.deferred none)) b 0 [.string af,.slice ag ah ai]∧
 ∃aj,q00 (j.setIfInBounds a.size (.deferred none)) c 0=some (.bool aj)∧
 K (.tuple #[.agg #[.string af,.slice ag ah ai],.bool aj]) (j.setIfInBounds a.size (.deferred none))) (
 ∃ak al am an,q01 n f 0 [.string ak,.slice al am an]∧
 ST n b 0 [.string ak,.slice al am an] fun bu=>
 ST bu c 0 [.bool true] fun k=>
 k[a.size]?=some (.deferred (some []))∧
 ∃ao ap aq ar,q01 (k.setIfInBounds a.size (.deferred none)) b 0 [.string ao,.slice ap aq ar]∧
 ∃au,q00 (k.setIfInBounds a.size (.deferred none)) c 0=some (.bool au)∧
 K (.tuple #[.agg #[.string ao,.slice ap aq ar],.bool au]) (k.setIfInBounds a.size (.deferred none))))∨
 i=(some .ret)∧
 d[a.size]?=some (.deferred (some []))∧
 ∃av aw ax ay,q01 (d.setIfInBounds a.size (.deferred none)) b 0 [.string av,.slice aw ax ay]∧
 ∃az,q00 (d.setIfInBounds a.size (.deferred none)) c 0=some (.bool az)∧
 K (.tuple #[.agg #[.string av,.slice aw ax ay],.bool az]) (d.setIfInBounds a.size (.deferred none))))) (
 ∃a0 a1 a2 a3,q01 g f 0 [.string a0,.slice a1 a2 a3]∧
 CF 164 #[.agg #[.string a0,.slice a1 a2 a3]] g fun bv o=>∃a4,bv=(.bool a4)∧
 IF (!a4) (
 ST o b 0 [(.string (⟨#[]⟩:ByteArray)),.slice none 0 0] fun bw=>
 ST bw c 0 [.bool false] fun p=>
 ∃a5 a6 a7 a8,q01 p b 0 [.string a5,.slice a6 a7 a8]∧
 ∃a9,q00 p c 0=some (.bool a9)∧
 K (.tuple #[.agg #[.string a5,.slice a6 a7 a8],.bool a9]) p) (
 ∃ba bb bc bd,q01 o f 0 [.string ba,.slice bb bc bd]∧
 ST o b 0 [.string ba,.slice bb bc bd] fun bx=>
 ST bx c 0 [.bool true] fun q=>
 ∃be bf bg bh,q01 q b 0 [.string be,.slice bf bg bh]∧
 ∃bi,q00 q c 0=some (.bool bi)∧
 K (.tuple #[.agg #[.string be,.slice bf bg bh],.bool bi]) q))
theorem q51.call {a H K:_}(hK:q51.code a H K):CF 112 ⟨[.string a]⟩ H K:=
 cE Tryz.func112 (.r (.r (.r (.seq (.r (.cond (.r (.seq (.r (.cond (.r .no) .no)) (.r (.blk (.rng [.one (.str)] [none,(some .ret)] .reg (.blk (.r (.seq (.r (.cond (.r .no) .no)) .reg)))))))) .no)) (.seq (.r (.cond (.r .no) .no)) (.r .no)))))) hK
def q0o.r1 (K:KT)(aq ar:Nat)(a:Heap):Prop:=
 ∃c0 b c d e f g i j k l m n o p q r s t u,q01 a aq 0 [I64 c0,I64 b,I64 c,I64 d,I64 e,I64 f,I64 g,I64 i,I64 j,I64 k,.slice l m n,.string o,.slice p q r,.slice s t u]∧
 ∃v w x y z aa ab ac ad ae af ag ah ai aj ak al am an ao,q01 a ar 0 [I64 v,I64 w,I64 x,I64 y,I64 z,I64 aa,I64 ab,I64 ac,I64 ad,I64 ae,.slice af ag ah,.string ai,.slice aj ak al,.slice am an ao]∧
 CF 165 #[.agg #[I64 c0,I64 b,I64 c,I64 d,I64 e,I64 f,I64 g,I64 i,I64 j,I64 k,.slice l m n,.string o,.slice p q r,.slice s t u],.agg #[I64 v,I64 w,I64 x,I64 y,I64 z,I64 aa,I64 ab,I64 ac,I64 ad,I64 ae,.slice af ag ah,.string ai,.slice aj ak al,.slice am an ao]] a fun au av=>∃ap,au=(.bool ap)∧
 K (.bool ap) av
def q0o.r2 (a:Heap→Prop)(b:Heap):Prop:=
 a b
def q0o.r3 (a:Heap→Prop)(b:Heap):Prop:=
 a b
def q0o.r4 (a:Heap→Prop)(b:Heap):Prop:=
 a b
def q0o.r5 (K:KT)(b f:Nat)(x:Int)(y:Heap→Prop)(z:Bool)(a:Heap):Prop:=
 ∀c:Heap→Prop,(∀i,q0o.r3 y i→c i)→
 IF z (
 ∃j,q00 a b 7=some (I64 j)∧
 IF (decide (1099511627776 < j)) (
 K (.bool false) a) (
 c a)) (
 ∀d:Heap→Prop,(∀k,q0o.r4 c k→d k)→
 IF (decide (x=8)) (
 ∃l m n o,q01 a b 11 [.string l,.slice m n o]∧
 ∃p q r,q00 a b 13=some (.slice p q r)∧
 ST a f 11 [.string l,.slice m n o] fun ac=>
 ST ac f 13 [.slice p q r] fun w=>
 ∃s t u v,q01 w b 11 [.string s,.slice t u v]∧
 CF 164 #[.agg #[.string s,.slice t u v]] w fun ad e=>∃r2,ad=(.bool r2)∧
 ∃aa g ab,(((!r2)=false)→q00 e b 13=some (.slice aa g ab))∧
 IF ((!r2) || (decide (4096 < (g:Int)))) (
 K (.bool false) e) (
 d e)) (
 d a))
def q0o.l6 (K:KT)(d:Nat)(ak:Option Addr)(n i:Nat)(al:Option Addr)(am:Nat)(an:Int→Heap→Prop)(o:Int→Heap→Nat)(b:Int)(a:Heap):Prop:=
 IF (decide (b < (n:Int))) (
 ((0:Int)≤b∧b < (n:Int))∧∃ae af:Nat,(ak=some ⟨ae,af,none⟩)∧
 ∃c,q00 a ae (af+b.toNat)=some (.pointer c)∧
 NN c (
 ∃f,q00 a (adrB c) (adrO c)=some (I64 f)∧
 (((decide (f < 0))=false)→isA c)∧
 ∃p,(((decide (f < 0))=false)→q00 a (adrB c) (adrO c)=some (I64 p))∧
 IF ((decide (f < 0)) || (decide (4611686018427387903 < p))) (
 K (.bool false) a) (
 ((0:Int)≤b∧b < (am:Int))∧∃ag ah:Nat,(al=some ⟨ag,ah,none⟩)∧
 ∃g,q00 a ag (ah+b.toNat)=some (.pointer g)∧
 NN c (
 ∃q,q00 a (adrB c) (adrO c)=some (I64 q)∧
 NN g (
 ST a (adrB g) (adrO g) [I64 q] fun ai=>
 an (i64.wrap (b+1)) ai∧o (i64.wrap (b+1)) ai < o b a))))) (
 ∃e,q00 a d 0=some (I64 e)∧
 ∀j:Heap→Prop,(∀r,q0o.r1 K d i r→j r)→
 IF (decide (e=4)) (
 ∃s,q00 a d 6=some (I64 s)∧
 ∃t,q00 a d 5=some (I64 t)∧
 IF (decide (s < t)) (
 K (.bool false) a) (
 j a)) (
 ∀k:Heap→Prop,(∀u,q0o.r2 j u→k u)→
 IF (decide (e=5)) (
 ∃v w x,q00 a d 10=some (.slice v w x)∧
 ST a i 10 [.slice v w x] fun m=>
 ∃y,q00 m d 7=some (I64 y)∧
 ∃z aa ab,q00 m d 10=some (.slice z aa ab)∧
 CF 163 #[I64 y,.slice z aa ab] m fun ao aj=>∃r1,ao=(.bool r1)∧
 IF (!r1) (
 K (.bool false) aj) (
 k aj)) (
 ∀l:Bool→Heap→Prop,(∀ac ad,q0o.r5 K d i e k ac ad→l ac ad)→
 IF (decide (e=6)) (
 l (decide (e=6)) a) (
 l (decide (e=7)) a))))
def q0o.code (q r s f3 t u v w x y:Int)(z:Option Addr)(aa ab:Nat)(ac:ByteArray)(ad:Option Addr)(ae af:Nat)(ag:Option Addr)(ah ai:Nat)(H:Heap)(K:KT):Prop:=
 AL H [I64 q,I64 r,I64 s,I64 f3,I64 t,I64 u,I64 v,I64 w,I64 x,I64 y,.slice z aa ab,.string ac,.slice ad ae af,.slice ag ah ai] 104 fun b am=>
 CF 162 #[PA b 0] am fun an c=>∃a j ak,an=(.slice a j ak)∧
 ∃d,((a.isNone=false)→q00 c b 1=some (I64 d))∧
 ∃e,(((a.isNone || (decide (d < 0)))=false)→q00 c b 1=some (I64 e))∧
 ∃g,((((a.isNone || (decide (d < 0))) || (decide (64≤e)))=false)→q00 c b 2=some (I64 g))∧
 ∃k,(((((a.isNone || (decide (d < 0))) || (decide (64≤e))) || (decide (g < 0)))=false)→q00 c b 2=some (I64 k))∧
 IF ((((a.isNone || (decide (d < 0))) || (decide (64≤e))) || (decide (g < 0))) || (decide (1099511627776 < k))) (
 K (.bool false) c) (
 ∃l,q00 c b 0=some (I64 l)∧
 AL c [I64 0,I64 0,I64 0,I64 0,I64 0,I64 0,I64 0,I64 0,I64 0,I64 0,.slice none 0 0,(.string (⟨#[]⟩:ByteArray)),.slice none 0 0,.slice none 0 0] 104 fun i ao=>
 ST ao i 0 [I64 l,I64 0,I64 0,I64 0,I64 0,I64 0,I64 0,I64 0,I64 0,I64 0,.slice none 0 0,(.string (⟨#[]⟩:ByteArray)),.slice none 0 0,.slice none 0 0] fun ap=>
 CF 162 #[PA i 0] ap fun aq ar=>∃m n al,aq=(.slice m n al)∧
 ∃(f:Int→Heap→Prop) (aj:Int→Heap→Nat),f 0 ar∧
 ∀o p,f o p→q0o.l6 K b a j i m n f aj o p)
theorem q0o.call {a b c d e f g i j k l m n o p q s t u v H K:_}(hK:q0o.code a b c d e f g i j k l m n o p q s t u v H K):CF 96 ⟨[.agg #[I64 a,I64 b,I64 c,I64 d,I64 e,I64 f,I64 g,I64 i,I64 j,I64 k,.slice l m n,.string o,.slice p q s,.slice t u v]]⟩ H K:=
 cE Tryz.func96 (.r (.r (.seq (.r (.cond (.r .no) .no)) (.r (.r (.seq (.r (.blk (.loop [(43,.one (.int .i64))] (.r (.seq (.cond .no .no) (.seq (.blk (.r (.seq (.r (.cond (.r .no) .no)) .reg))) .reg)))))) (.seq (.r (.blk (.r (.condJ [] (.r (.cond (.r .no) .no)) (.r (.condJ [] (.r (.r (.cond (.r .no) .no))) (.seq (.r (.condJ [(88,.one (.bool))] .no .reg)) (.condJ [] (.r (.cond (.r .no) .no)) (.r (.condJ [] (.r (.r (.cond (.r .no) .no))) .no)))))))))) (.r .no)))))))) hK
open Go.Nm
def qag.code (b c:ByteArray)(H:Heap)(K:KT):Prop:=
 CF 232 #[.string b,.string c] H fun d e=>∃a,d=(I64 a)∧
 K (I64 a) e
theorem qag.call {a b H K:_}(hK:qag.code a b H K):CF 236 ⟨[.string a,.string b]⟩ H K:=
 cE Tryz.func236 (.r (.r .no)) hK
end Go.Proofs.YtfmkddccnjidmaaGreatDoor
