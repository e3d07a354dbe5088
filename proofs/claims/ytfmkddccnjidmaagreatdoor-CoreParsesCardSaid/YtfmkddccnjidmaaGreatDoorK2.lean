/-
  Lemmas for CoreParses: part 2 of what it rests on. Conditions: none.
-/
import Derived.Test.YtfmkddccnjidmaaGreatDoorK1
set_option linter.unusedVariables false
set_option linter.unusedSimpArgs false
set_option maxRecDepth 100000
open Go.IntKind (i64 u64 i8 u8 i32 u32 i16 u16)
namespace Go.Proofs.YtfmkddccnjidmaaGreatDoor
open Go.Nm
open Go.Nm
def qif.code (d e:Nat)(ah:Int)(m n:Nat)(cf cg:Int)(ch:ByteArray)(ci:Option Addr)(cj ck:Nat)(H:Heap)(K:KT):Prop:=
 AL H [I64 cf,I64 cg,.string ch,.slice ci cj ck] 95 fun i cm=>
 AL cm [I64 0,I64 0] 51 fun b cn=>
 AL cn [I64 0,I64 0] 53 fun c j=>
 ∃ai,q00 j i 0=some (I64 ai)∧
 ∃aj,q00 j m (n+2)=some (I64 aj)∧
 IF (decide (ai < aj)) (
 ST j b 0 [I64 6,I64 0] fun co=>
 ST co c 0 [I64 0,I64 0] fun z=>
 ∃ak al,q01 z b 0 [I64 ak,I64 al]∧
 ∃am an,q01 z c 0 [I64 am,I64 an]∧
 K (.tuple #[.agg #[I64 ak,I64 al],.agg #[I64 am,I64 an]]) z) (
 ∃ao,q00 j i 0=some (I64 ao)∧
 ST j m (n+2) [I64 ao] fun b8=>
 ∃ap,q00 b8 i 0=some (I64 ap)∧
 CF 91 #[PA d e,I64 ah,PA m n,I64 ap] b8 fun cp cq=>∃aq r1 ar,cp=(.tuple #[.agg #[I64 aq,I64 r1],I64 ar])∧
 AL cq [I64 0,I64 0] 53 fun a cr=>
 ST cr a 0 [I64 aq,I64 r1] fun g=>
 ∃au,q00 g m n=some (.pointer au)∧
 ∃r2,CQ 70 #[.pointer au] g (.bool r2)∧
 IF (r2 || (!decide (ar=0))) (
 ST g b 0 [I64 2,I64 0] fun cs=>
 ST cs c 0 [I64 0,I64 0] fun aa=>
 ∃av aw,q01 aa b 0 [I64 av,I64 aw]∧
 ∃ax ay,q01 aa c 0 [I64 ax,I64 ay]∧
 K (.tuple #[.agg #[I64 av,I64 aw],.agg #[I64 ax,I64 ay]]) aa) (
 ∃az,q00 g d (e+16)=some (.pointer az)∧
 ∃a0,q00 g a 0=some (I64 a0)∧
 CF 148 #[.pointer az,I64 ah,I64 a0] g fun ct f=>∃r3,ct=(I64 r3)∧
 ∃a1,q00 f a 0=some (I64 a1)∧
 ∃a2,q00 f d (e+16)=some (.pointer a2)∧
 ∃r4,CQ 60 #[.pointer a2] f (I64 r4)∧
 IF (decide (a1 < r4)) (
 ∃c0 p,q01 f a 0 [I64 c0,I64 p]∧
 ST f b 0 [I64 1,I64 0] fun b9=>
 q01 b9 a 0 [I64 c0,I64 p]∧
 ST b9 c 0 [I64 c0,I64 p] fun ab=>
 ∃a3 a4,q01 ab b 0 [I64 a3,I64 a4]∧
 ∃a5 a6,q01 ab c 0 [I64 a5,I64 a6]∧
 K (.tuple #[.agg #[I64 a3,I64 a4],.agg #[I64 a5,I64 a6]]) ab) (
 ∃a7 a8 a9 ba,q01 f i 2 [.string a7,.slice a8 a9 ba]∧
 CF 190 #[.agg #[.string a7,.slice a8 a9 ba]] f fun cu ac=>∃r5,cu=(.string r5)∧
 ∃bb bc bd,q01 ac d (e+12) [I64 bb,I64 bc,I64 bd]∧
 ∃be bf,q01 ac a 0 [I64 be,I64 bf]∧
 CF 191 #[.agg #[I64 bb,I64 bc,I64 bd],.agg #[I64 be,I64 bf]] ac fun cv ca=>∃r6 r7 cl,cv=(.tuple #[I64 r6,I64 r7,I64 cl])∧
 ∃bg,q00 ca d (e+17)=some (.pointer bg)∧
 CF 192 #[.pointer bg,I64 r6,I64 r7,.string r5] ca fun cw k=>∃bh,cw=(I64 bh)∧
 IF (!decide (bh=0)) (
 ∃q r,q01 k a 0 [I64 q,I64 r]∧
 ST k b 0 [I64 4,I64 0] fun cb=>
 q01 cb a 0 [I64 q,I64 r]∧
 ST cb c 0 [I64 q,I64 r] fun ad=>
 ∃bi bj,q01 ad b 0 [I64 bi,I64 bj]∧
 ∃bk bl,q01 ad c 0 [I64 bk,I64 bl]∧
 K (.tuple #[.agg #[I64 bi,I64 bj],.agg #[I64 bk,I64 bl]]) ad) (
 ∃bm bn bo,q01 k d (e+12) [I64 bm,I64 bn,I64 bo]∧
 ∃bp bq,q01 k a 0 [I64 bp,I64 bq]∧
 CF 193 #[.agg #[I64 bm,I64 bn,I64 bo],.agg #[I64 bp,I64 bq]] k fun cx l=>∃s br,cx=(.tuple #[I64 s,I64 br])∧
 IF (!decide (br=0)) (
 ∃t u,q01 l a 0 [I64 t,I64 u]∧
 ST l b 0 [I64 3,I64 0] fun cc=>
 q01 cc a 0 [I64 t,I64 u]∧
 ST cc c 0 [I64 t,I64 u] fun ae=>
 ∃bs bt,q01 ae b 0 [I64 bs,I64 bt]∧
 ∃bu bv,q01 ae c 0 [I64 bu,I64 bv]∧
 K (.tuple #[.agg #[I64 bs,I64 bt],.agg #[I64 bu,I64 bv]]) ae) (
 ∃bw,q00 l d (e+17)=some (.pointer bw)∧
 ∃bx,q00 l i 1=some (I64 bx)∧
 CF 194 #[.pointer bw,.agg #[I64 s,.string r5],I64 bx] l fun cy o=>∃bz,cy=(I64 bz)∧
 IF (!decide (bz=0)) (
 ∃v w,q01 o a 0 [I64 v,I64 w]∧
 ST o b 0 [I64 4,I64 0] fun cd=>
 q01 cd a 0 [I64 v,I64 w]∧
 ST cd c 0 [I64 v,I64 w] fun af=>
 ∃b0 b1,q01 af b 0 [I64 b0,I64 b1]∧
 ∃b2 b3,q01 af c 0 [I64 b2,I64 b3]∧
 K (.tuple #[.agg #[I64 b0,I64 b1],.agg #[I64 b2,I64 b3]]) af) (
 ∃x y,q01 o a 0 [I64 x,I64 y]∧
 ST o b 0 [I64 0,I64 s] fun ce=>
 q01 ce a 0 [I64 x,I64 y]∧
 ST ce c 0 [I64 x,I64 y] fun ag=>
 ∃b4 b5,q01 ag b 0 [I64 b4,I64 b5]∧
 ∃b6 b7,q01 ag c 0 [I64 b6,I64 b7]∧
 K (.tuple #[.agg #[I64 b4,I64 b5],.agg #[I64 b6,I64 b7]]) ag))))))
theorem qif.call {a b c d e f g i j k l H K:_}(hK:qif.code a b c d e f g i j k l H K):CF 147 ⟨[PA a b,I64 c,PA d e,.agg #[I64 f,I64 g,.string i,.slice j k l]]⟩ H K:=
 cE Tryz.func147 (.r (.seq (.r (.cond (.r .no) .no)) (.r (.r (.seq (.r (.cond (.r .no) .no)) (.r (.seq (.r (.cond (.r .no) .no)) (.r (.r (.seq (.r (.cond (.r .no) .no)) (.r (.seq (.r (.cond (.r .no) .no)) (.seq (.r (.cond (.r .no) .no)) (.r .no)))))))))))))) hK
def q52.l1 (K:KT)(d:Option Addr)(b r:Nat)(s:Int→Heap→Prop)(e:Int→Heap→Nat)(a:Int)(c:Heap):Prop:=
 IF (decide (a < (b:Int))) (
 ((0:Int)≤a∧a < (b:Int))∧∃m n:Nat,(d=some ⟨m,n,none⟩)∧
 ∃f g i,q00 c m (n+a.toNat*4+2+1)=some (.slice f g i)∧
 CF 189 #[.slice f g i] c fun t u=>∃j k l,t=(.slice j k l)∧
 ((0:Int)≤a∧a < (b:Int))∧∃o p:Nat,(d=some ⟨o,p,none⟩)∧
 ST u o (p+a.toNat*4+2+1) [.slice j k l] fun q=>
 s (i64.wrap (a+1)) q∧e (i64.wrap (a+1)) q < e a c) (
 K (.slice d b r) c)
def q52.code (g:Option Addr)(i j:Nat)(H:Heap)(K:KT):Prop:=
 CF 188 #[.slice g i j] H fun l m=>∃b c d,l=(.slice b c d)∧
 ∃(a:Int→Heap→Prop) (k:Int→Heap→Nat),a 0 m∧
 ∀e f,a e f→q52.l1 K b c d a k e f
theorem q52.call {a b c H K:_}(hK:q52.code a b c H K):CF 146 ⟨[.slice a b c]⟩ H K:=
 cE Tryz.func146 (.r (.r (.seq (.r (.blk (.loop [(8,.one (.int .i64))] (.r (.seq (.cond .no .no) (.seq (.blk (.r .reg)) .reg)))))) (.r .no)))) hK
def qtt.code (a b:Nat)(H:Heap)(K:KT):Prop:=
 ∃d,q00 H a (b+11)=some (I64 d)∧
 ∃e c f,q00 H a (b+19)=some (.slice e c f)∧
 K (I64 (i64.wrap (d+(c:Int)))) H
theorem qtt.call {a b H K:_}(hK:qtt.code a b H K):CF 134 ⟨[PA a b]⟩ H K:=
 cE Tryz.func134 (.r (.r .no)) hK
def q3m.r1 (e:Int→Int→Heap→Prop)(b:Int→Int→Heap→Nat)(f a:Int)(g:Heap)(c:Int)(d:Heap):Prop:=
 e c (i64.wrap (a+1)) d∧b c (i64.wrap (a+1)) d < b f a g
def q3m.l2 (l:Option Addr)(e:Nat)(K:KT)(m:Int→Int→Heap→Prop)(n:Int→Int→Heap→Nat)(c a:Int)(b:Heap):Prop:=
 IF (decide (a < (e:Int))) (
 ((0:Int)≤a∧a < (e:Int))∧∃j k:Nat,(l=some ⟨j,k,none⟩)∧
 ∃f,q00 b j (k+a.toNat)=some (.bool f)∧
 ∀d:Int→Heap→Prop,(∀g i,q3m.r1 m n c a b g i→d g i)→
 IF f (
 ((0:Int)≤a)∧
 d (i64.wrap (c+(i64.wrap (1*2 ^ (min (Int.toNat a) (i64.bits)))))) b) (
 d c b)) (
 K (I64 c) b)
def q3m.code (e:Option Addr)(f i:Nat)(H:Heap)(K:KT):Prop:=
 ∃(a:Int→Int→Heap→Prop) (g:Int→Int→Heap→Nat),a 0 0 H∧
 ∀(b:Int) (c:Int),∀d:Heap,a b c d→q3m.l2 e f K a g b c d
theorem q3m.call {a b c H K:_}(hK:q3m.code a b c H K):CF 124 ⟨[.slice a b c]⟩ H K:=
 cE Tryz.func124 (.r (.r (.seq (.r (.blk (.loop [(3,.one (.int .i64)),(8,.one (.int .i64))] (.r (.seq (.cond .no .no) (.seq (.blk (.r (.r (.condJ [(3,.one (.int .i64))] .reg .no)))) .reg)))))) (.r .no)))) hK
def q26.r1 (K:KT)(a:Heap):Prop:=
 K (.tuple #[]) a
def q26.r2 (m n:Nat)(K KP:Value→Heap→Prop)(o:Int)(p q:Nat)(a:Heap):Prop:=
 ∃c d e f g i,q01 a p q [I64 c,I64 d,.string e,.slice f g i]∧
 AL a [I64 c,I64 d,.string e,.slice f g i] 95 fun t u=>
 CF 145 #[PA m n,I64 o,.slice (some ⟨t,0,none⟩) 1 1] u fun v l=>∃r b s r1,v=(.tuple #[.slice r b s,I64 r1])∧
 ∀k:Heap→Prop,(∀j,q26.r1 K j→k j)→
 IF ((decide (0 < (b:Int))) || (decide (0 < r1))) (
 KP (.iface 28 (I64 10)) l) (
 k l)
def q26.r3 (ak al:Nat)(K KP:Value→Heap→Prop)(a:Int)(b c:Nat)(d:Heap):Prop:=
 ∃c0 e f g i j,q01 d b c [I64 c0,I64 e,.string f,.slice g i j]∧
 AL d [I64 c0,I64 e,.string f,.slice g i j] 95 fun am an=>
 AL an [I64 0,I64 0,I64 0,I64 0,I64 0,I64 0,I64 0,I64 0,I64 0,I64 0,.slice none 0 0,(.string (⟨#[]⟩:ByteArray)),.slice none 0 0,.slice none 0 0] 104 fun ah ao=>
 ST ao ah 0 [I64 5,I64 0,I64 0,I64 0,I64 0,I64 0,I64 0,I64 a,I64 0,I64 0,.slice (some ⟨am,0,none⟩) 1 1,(.string (⟨#[]⟩:ByteArray)),.slice none 0 0,.slice none 0 0] fun ai=>
 ∃k l m n o p q r s t u v w x y z aa ab ac ad,q01 ai ah 0 [I64 k,I64 l,I64 m,I64 n,I64 o,I64 p,I64 q,I64 r,I64 s,I64 t,.slice u v w,.string x,.slice y z aa,.slice ab ac ad]∧
 CF 96 #[.agg #[I64 k,I64 l,I64 m,I64 n,I64 o,I64 p,I64 q,I64 r,I64 s,I64 t,.slice u v w,.string x,.slice y z aa,.slice ab ac ad]] ai fun ap aj=>∃ae,ap=(.bool ae)∧
 ∀ag:Heap→Prop,(∀af,q26.r2 ak al K KP a b c af→ag af)→
 IF (!ae) (
 KP (.iface 28 (I64 10)) aj) (
 ag aj)
def q26.code (aj:Option Addr)(ak al:Nat)(H:Heap)(K KP:Value→Heap→Prop):Prop:=
 AL H [.pointer aj] 109 fun b e=>
 ∀d:Int→Nat→Nat→Heap→Prop,(∀(i:Int) (j:Nat) (k:Nat),∀ad:Heap,q26.r3 ak al K KP i j k ad→d i j k ad)→
 ∃c,q01 e b 0 [.pointer c]∧
 ∃a,q01 e b 0 [.pointer a]∧
 (CP 43 #[.agg #[.pointer c]] e (fun am f=>∃r2,am=(I64 r2)∧
 q01 f b 0 [.pointer a]∧
 (CP 94 #[.agg #[.pointer a]] f (fun an ao=>∃l m n o p q,an=(.agg #[I64 l,I64 m,.string n,.slice o p q])∧
 AL ao [I64 0,I64 0,(.string (⟨#[]⟩:ByteArray)),.slice none 0 0] 95 fun ae ap=>
 ST ap ae 0 [I64 l,I64 m,.string n,.slice o p q] fun aq=>
 d r2 ae 0 aq) (fun ar au=>
 KP ar au))∧
 (AL f [I64 0,I64 0,(.string (⟨#[]⟩:ByteArray)),.slice none 0 0] 95 fun af ag=>
 q01 ag b 0 [.pointer a]∧
 CP 94 #[.agg #[.pointer a]] ag (fun av aw=>∃r s t u v w,av=(.agg #[I64 r,I64 s,.string t,.slice u v w])∧
 ST aw af 0 [I64 r,I64 s,.string t,.slice u v w] fun ax=>
 d r2 af 0 ax) (fun ay az=>
 KP ay az))) (fun a0 a1=>
 KP a0 a1))∧
 (AL e [I64 0,I64 0,(.string (⟨#[]⟩:ByteArray)),.slice none 0 0] 95 fun ah g=>
 q01 g b 0 [.pointer a]∧
 q01 g b 0 [.pointer c]∧
 CP 43 #[.agg #[.pointer c]] g (fun a2 ai=>∃r3,a2=(I64 r3)∧
 q01 ai b 0 [.pointer a]∧
 CP 94 #[.agg #[.pointer a]] ai (fun a3 a4=>∃x y z aa ab ac,a3=(.agg #[I64 x,I64 y,.string z,.slice aa ab ac])∧
 ST a4 ah 0 [I64 x,I64 y,.string z,.slice aa ab ac] fun a5=>
 d r3 ah 0 a5) (fun a6 a7=>
 KP a6 a7)) (fun a8 a9=>
 KP a8 a9))
theorem q26.call {a b c H K KP:_}(hK:q26.code a b c H K KP):CP 107 ⟨[.agg #[.pointer a],PA b c]⟩ H K KP:=
 cP Tryz.func107 (.r (.seq (.regJ [(4,.one (.int .i64)),(5,.one (.adr))]) (.r (.seq (.r (.condJ [] .reg .no)) (.r (.r (.condJ [] .reg .no))))))) (by kernel_rfl) hK
def qon.code (a b:Nat)(H:Heap)(K:KT):Prop:=
 ∃c,q00 H a (b+4)=some (I64 c)∧
 ∃d,q00 H a (b+5)=some (I64 d)∧
 CF 53 #[I64 c,I64 d] H fun i g=>∃e r1,i=(.tuple #[.pointer e,I64 r1])∧
 ∃f,q00 g a (b+8)=some (I64 f)∧
 CF 56 #[I64 0,I64 f] g fun j k=>∃r2 r3,j=(.tuple #[.pointer r2,I64 r3])∧
 AL k [.pointer e,.pointer r2,I64 (-1)] 149 fun l m=>
 K (PA l 0) m
theorem qon.call {a b H K:_}(hK:qon.code a b H K):CF 105 ⟨[PA a b]⟩ H K:=
 cE Tryz.func105 (.r (.r (.r (.r .no)))) hK
def qdz.code (a b c:Int)(H:Heap)(K:KT):Prop:=
 K (.bool ((decide (b≤a)) && (decide (a≤c)))) H
theorem qdz.call {a b c H K:_}(hK:qdz.code a b c H K):CF 97 ⟨[I64 a,I64 b,I64 c]⟩ H K:=
 cE Tryz.func97 (.r (.r .no)) hK
def q29.r1 (K:KT)(l:Nat)(m:Option Addr)(n o:Nat)(a:Heap):Prop:=
 ∃c0 b c d,q01 a l 2 [.string c0,.slice b c d]∧
 CF 161 #[.agg #[.string c0,.slice b c d]] a fun p q=>∃e f g,p=(.slice e f g)∧
 RunW Tryz.prog (Builtin.append_ #[24,24] 24 #[.slice m n o,.slice e f g]) q fun r s=>
 ∃i j k,r=(.slice i j k)∧
 K (.slice i j k) s
def q29.code (e0 ap:Int)(aq:ByteArray)(ar:Option Addr)(au av:Nat)(H:Heap)(K:KT):Prop:=
 AL H [I64 e0,I64 ap,.string aq,.slice ar au av] 95 fun b e=>
 ∀d:(Option Addr)→Nat→Nat→Heap→Prop,(∀(g:Option Addr) (i:Nat) (j:Nat),∀al:Heap,q29.r1 K b g i j al→d g i j al)→
 ∃c,q00 e b 0=some (I64 c)∧
 ∃a,q00 e b 1=some (I64 a)∧
 (AL e [I64 c] 2 fun am f=>
 q00 f b 1=some (I64 a)∧
 (CF 57 #[.slice (some ⟨am,0,none⟩) 1 1] f fun aw an=>∃k l m,aw=(.slice k l m)∧
 q00 an b 1=some (I64 a)∧
 AL an [I64 a] 2 fun ax ay=>
 CF 59 #[.slice (some ⟨ax,0,none⟩) 1 1] ay fun az a0=>∃n o p,az=(.slice n o p)∧
 RunW Tryz.prog (Builtin.append_ #[24,24] 24 #[.slice k l m,.slice n o p]) a0 fun a1 a2=>
 ∃q r s,a1=(.slice q r s)∧
 d q r s a2)∧
 (AL f [I64 a] 2 fun a3 a4=>
 CF 57 #[.slice (some ⟨am,0,none⟩) 1 1] a4 fun a5 a6=>∃t u v,a5=(.slice t u v)∧
 CF 59 #[.slice (some ⟨a3,0,none⟩) 1 1] a6 fun a7 a8=>∃w x y,a7=(.slice w x y)∧
 RunW Tryz.prog (Builtin.append_ #[24,24] 24 #[.slice t u v,.slice w x y]) a8 fun a9 ba=>
 ∃z aa ab,a9=(.slice z aa ab)∧
 d z aa ab ba))∧
 (AL e [I64 a] 2 fun bb ao=>
 q00 ao b 0=some (I64 c)∧
 AL ao [I64 c] 2 fun bc bd=>
 CF 57 #[.slice (some ⟨bc,0,none⟩) 1 1] bd fun be bf=>∃ac ad ae,be=(.slice ac ad ae)∧
 CF 59 #[.slice (some ⟨bb,0,none⟩) 1 1] bf fun bg bh=>∃af ag ah,bg=(.slice af ag ah)∧
 RunW Tryz.prog (Builtin.append_ #[24,24] 24 #[.slice ac ad ae,.slice af ag ah]) bh fun bi bj=>
 ∃ai aj ak,bi=(.slice ai aj ak)∧
 d ai aj ak bj)
theorem q29.call {a b c d e f H K:_}(hK:q29.code a b c d e f H K):CF 95 ⟨[.agg #[I64 a,I64 b,.string c,.slice d e f]]⟩ H K:=
 cE Tryz.func95 (.r (.seq (.regJ [(3,.one (.slice))]) (.r .no))) hK
def qoo.code (aa:Option Addr)(H:Heap)(K KP:Value→Heap→Prop):Prop:=
 AL H [.pointer aa] 109 fun a ab=>
 AL ab [I64 0,I64 0,(.string (⟨#[]⟩:ByteArray)),.slice none 0 0] 95 fun u c=>
 ∃d,q01 c a 0 [.pointer d]∧
 ∃b,q01 c a 0 [.pointer b]∧
 CP 43 #[.agg #[.pointer d]] c (fun ac v=>∃e,ac=(I64 e)∧
 q01 v a 0 [.pointer b]∧
 CP 41 #[.agg #[.pointer b]] v (fun ad w=>∃r1,ad=(I64 r1)∧
 ∃f,q00 w a 0=some (.pointer f)∧
 CF 160 #[.pointer f] w fun ae af=>∃g i j k r2,ae=(.tuple #[.agg #[.string g,.slice i j k],I64 r2])∧
 AL af [(.string (⟨#[]⟩:ByteArray)),.slice none 0 0] 93 fun x ag=>
 ST ag x 0 [.string g,.slice i j k] fun ah=>
 CP 45 #[I64 r2] ah (fun ai y=>ai=(.tuple #[])∧
 ∃c0 l m n,q01 y x 0 [.string c0,.slice l m n]∧
 ST y u 0 [I64 e,I64 r1,.string c0,.slice l m n] fun z=>
 ∃o p q r s t,q01 z u 0 [I64 o,I64 p,.string q,.slice r s t]∧
 K (.agg #[I64 o,I64 p,.string q,.slice r s t]) z) (fun aj ak=>
 KP aj ak)) (fun al am=>
 KP al am)) (fun an ao=>
 KP an ao)
theorem qoo.call {a H K KP:_}(hK:qoo.code a H K KP):CP 94 ⟨[.agg #[.pointer a]]⟩ H K KP:=
 cP Tryz.func94 (.r (.r (.r (.r (.r .no))))) (by kernel_rfl) hK
def qig.code (a b:Nat)(H:Heap)(K:KT):Prop:=
 ∃c,q00 H a b=some (I64 c)∧
 IF (decide (c=2)) (
 AL H [PA a (b+1),PA a (b+3),PA a (b+6)] 177 fun d e=>
 K (.slice (some ⟨d,0,none⟩) 3 3) e) (
 IF (decide (c=3)) (
 AL H [PA a (b+1),PA a (b+2),PA a (b+7),PA a (b+7+1),PA a (b+7+2),PA a (b+7+3)] 177 fun f g=>
 K (.slice (some ⟨f,0,none⟩) 6 6) g) (
 IF (decide (c=4)) (
 AL H [PA a (b+1),PA a (b+2),PA a (b+4),PA a (b+6)] 177 fun i j=>
 K (.slice (some ⟨i,0,none⟩) 4 4) j) (
 IF (decide (c=5)) (
 AL H [PA a (b+1),PA a (b+2),PA a (b+4),PA a (b+5),PA a (b+6)] 177 fun k l=>
 K (.slice (some ⟨k,0,none⟩) 5 5) l) (
 IF (decide (c=6)) (
 AL H [PA a (b+6)] 177 fun m n=>
 K (.slice (some ⟨m,0,none⟩) 1 1) n) (
 IF (decide (c=7)) (
 AL H [PA a (b+4)] 177 fun o p=>
 K (.slice (some ⟨o,0,none⟩) 1 1) p) (
 K (.slice none 0 0) H))))))
theorem qig.call {a b H K:_}(hK:qig.code a b H K):CF 93 ⟨[PA a b]⟩ H K:=
 cE Tryz.func93 (.r (.seq (.r (.blk (.r (.cond (.r .no) (.r (.cond (.r (.r .no)) (.r (.cond (.r .no) (.r (.cond (.r .no) (.r (.cond (.r .no) (.r (.cond (.r .no) .no)))))))))))))) (.r .no))) hK
def q2x.r1 (K:Heap→Prop)(a:Heap):Prop:=
 K a
def q2x.code (c d i j:Nat)(k:Value)(H:Heap)(K:Heap→Prop):Prop:=
 CF 38 #[k] H fun l m=>∃e,l=(I64 e)∧
 ST m c d [I64 e] fun b=>
 ∃f,q00 b c d=some (I64 f)∧
 ∀a:Heap→Prop,(∀g,q2x.r1 K g→a g)→
 IF (!decide (f=0)) (
 ST b i j [I64 0,I64 0,I64 0,I64 0,I64 0,I64 0,I64 0,I64 0,I64 0,I64 0,I64 0,.slice none 0 0] fun n=>
 a n) (
 a b)
theorem q2x.defq {a b c d e H K:_}{u u':FrameMode}(hu:(u=.returning∧e=.nilIface∧u'=.returning)∨(u=panM e false∧u'=panM e true))(hK:q2x.code a b c d e H K):DefQ Tryz.prog 92 [PA a b,PA c d] u H fun u'' H'=>u''=u'∧K H':=
 qme (X:=X) (an:=(.r (.r (.condJ [] .reg .no)))) X_P qmf qcn Tryz.func92 hu (by kernel_rfl) hK
def q6k.r1 (K:KT)(a:Nat)(k:Int)(l m:Nat)(b:Heap):Prop:=
 IF (!decide (k=0)) (
 ST b a 0 [I64 0,I64 0] fun i=>
 ∃c d,q01 i a 0 [I64 c,I64 d]∧
 K (.tuple #[.agg #[I64 c,I64 d],I64 13]) i) (
 ∃c0 e,q01 b l m [I64 c0,I64 e]∧
 ST b a 0 [I64 c0,I64 e] fun j=>
 ∃f g,q01 j a 0 [I64 f,I64 g]∧
 K (.tuple #[.agg #[I64 f,I64 g],I64 0]) j)
def q6k.code (i j:Nat)(an:Int)(ao ap:Nat)(aq:Int)(H:Heap)(K:KT):Prop:=
 AL H [I64 0,I64 0] 53 fun l ag=>
 ∃s,q00 ag ao ap=some (.pointer s)∧
 CF 158 #[.pointer s,I64 aq] ag fun ar au=>∃t r1 k,ar=(.tuple #[.agg #[I64 t,I64 r1],I64 k])∧
 AL au [I64 0,I64 0] 53 fun m av=>
 ST av m 0 [I64 t,I64 r1] fun n=>
 IF (!decide (k=0)) (
 ST n l 0 [I64 0,I64 0] fun ah=>
 ∃u v,q01 ah l 0 [I64 u,I64 v]∧
 K (.tuple #[.agg #[I64 u,I64 v],I64 k]) ah) (
 ∃w,q00 n i (j+16)=some (.pointer w)∧
 CF 81 #[.pointer w,I64 an] n fun aw ax=>∃x y r2 r3 r4,aw=(.tuple #[.agg #[I64 x,.bool y,.bool r2,.bool r3],.bool r4])∧
 AL ax [I64 0,.bool false,.bool false,.bool false] 80 fun o ay=>
 ST ay o 0 [I64 x,.bool y,.bool r2,.bool r3] fun a=>
 ∀f:Int→Nat→Nat→Heap→Prop,(∀(p:Int) (q:Nat) (r:Nat),∀af:Heap,q6k.r1 K l p q r af→f p q r af)→
 ∃b c,q01 a m 0 [I64 b,I64 c]∧
 ∃d,q00 a o 0=some (I64 d)∧
 ∃e,q00 a i (j+9)=some (I64 e)∧
 (AL a [I64 b,I64 c,I64 d,I64 e] 53 fun ai aj=>
 (CF 159 #[.slice (some ⟨ai,0,none⟩) 2 2] aj fun az a0=>∃z aa r5,az=(.tuple #[.agg #[I64 z,I64 aa],I64 r5])∧
 AL a0 [I64 0,I64 0] 53 fun ak a1=>
 ST a1 ak 0 [I64 z,I64 aa] fun a2=>
 f r5 ak 0 a2)∧
 (AL aj [I64 0,I64 0] 53 fun al a3=>
 CF 159 #[.slice (some ⟨ai,0,none⟩) 2 2] a3 fun a4 a5=>∃ab ac r6,a4=(.tuple #[.agg #[I64 ab,I64 ac],I64 r6])∧
 ST a5 al 0 [I64 ab,I64 ac] fun a6=>
 f r6 al 0 a6))∧
 (AL a [I64 0,I64 0] 53 fun am g=>
 q00 g i (j+9)=some (I64 e)∧
 q00 g o 0=some (I64 d)∧
 q01 g m 0 [I64 b,I64 c]∧
 AL g [I64 b,I64 c,I64 d,I64 e] 53 fun a7 a8=>
 CF 159 #[.slice (some ⟨a7,0,none⟩) 2 2] a8 fun a9 ba=>∃ad ae r7,a9=(.tuple #[.agg #[I64 ad,I64 ae],I64 r7])∧
 ST ba am 0 [I64 ad,I64 ae] fun bb=>
 f r7 am 0 bb))
theorem q6k.call {a b c d e f H K:_}(hK:q6k.code a b c d e f H K):CF 91 ⟨[PA a b,I64 c,PA d e,I64 f]⟩ H K:=
 cE Tryz.func91 (.r (.r (.seq (.r (.cond (.r .no) .no)) (.r (.seq (.regJ [(11,.one (.int .i64)),(14,.one (.adr))]) (.seq (.r (.cond (.r .no) .no)) (.r .no))))))) hK
def qe0.l1 (b c:Nat)(K:KT)(a6:Option Addr)(r:Nat)(a7:(Option Addr)→Nat→Nat→Int→Heap→Prop)(s:(Option Addr)→Nat→Nat→Int→Heap→Nat)(e:Option Addr)(f g:Nat)(a:Int)(d:Heap):Prop:=
 IF (decide (a < (r:Int))) (
 ((0:Int)≤a∧a < (r:Int))∧∃a2 a3:Nat,(a6=some ⟨a2,a3,none⟩)∧
 ∃t u v w x y z aa ab ac,q01 d a2 (a3+a.toNat*74) ([I64 t,.string u,I64 v,I64 w,.int .u64 x,I64 y,I64 z,I64 aa,I64 ab]++vecL .i64 ac 65 0)∧
 AL d ([I64 0,(.string (⟨#[]⟩:ByteArray)),I64 0,I64 0,.int .u64 0,I64 0,I64 0,I64 0,I64 0]++vecL .i64 Z0 65 0) 64 fun o a8=>
 ST a8 o 0 ([I64 t,.string u,I64 v,I64 w,.int .u64 x,I64 y,I64 z,I64 aa,I64 ab]++vecL .i64 ac 65 0) fun p=>
 ∃r3,CQ 134 #[PA b c] p (I64 r3)∧
 ∃ad ae af ag ah ai aj ak al am,q01 p o 0 ([I64 ad,.string ae,I64 af,I64 ag,.int .u64 ah,I64 ai,I64 aj,I64 ak,I64 al]++vecL .i64 am 65 0)∧
 AL p ([I64 4,I64 0,I64 0,I64 0,I64 0,I64 r3,I64 0,I64 0,I64 0,I64 0,I64 0,I64 0,I64 0,I64 ad,.string ae,I64 af,I64 ag,.int .u64 ah,I64 ai,I64 aj,I64 ak,I64 al]++vecL .i64 am 65 0) 66 fun a9 ba=>
 RunW Tryz.prog (Builtin.append_ #[39,39] 39 #[.slice e f g,.slice (some ⟨a9,0,none⟩) 1 1]) ba fun bb q=>
 ∃i j k,bb=(.slice i j k)∧
 ∃l m n,q00 q b (c+19)=some (.slice l m n)∧
 ∃an ao ap aq ar au av aw ax ay,q01 q o 0 ([I64 an,.string ao,I64 ap,I64 aq,.int .u64 ar,I64 au,I64 av,I64 aw,I64 ax]++vecL .i64 ay 65 0)∧
 AL q ([I64 an,.string ao,I64 ap,I64 aq,.int .u64 ar,I64 au,I64 av,I64 aw,I64 ax]++vecL .i64 ay 65 0) 64 fun bc a4=>
 q00 a4 b (c+19)=some (.slice l m n)∧
 RunW Tryz.prog (Builtin.append_ #[86,86] 86 #[.slice l m n,.slice (some ⟨bc,0,none⟩) 1 1]) a4 fun bd be=>
 ∃az a0 a1,bd=(.slice az a0 a1)∧
 ST be b (c+19) [.slice az a0 a1] fun a5=>
 a7 i j k (i64.wrap (a+1)) a5∧s i j k (i64.wrap (a+1)) a5 < s e f g a d) (
 K (.slice e f g) d)
def qe0.code (a b:Nat)(f:Int)(H:Heap)(K:KT):Prop:=
 ST H a (b+9) [I64 f] fun s=>
 ∃l,q00 s a (b+16)=some (.pointer l)∧
 CF 149 #[.pointer l,I64 f] s fun x c=>∃v,x=(I64 v)∧
 ∃e,q00 c a (b+17)=some (.pointer e)∧
 ∃c0 m n,q01 c a (b+12) [I64 c0,I64 m,I64 n]∧
 ∃o,q00 c a (b+16)=some (.pointer o)∧
 ∃r1,CQ 60 #[.pointer o] c (I64 r1)∧
 CF 22 #[.agg #[I64 c0,I64 m,I64 n],I64 r1] c fun y t=>∃r2,y=(I64 r2)∧
 q00 t a (b+17)=some (.pointer e)∧
 CF 150 #[.pointer e,I64 r2] t fun z aa=>∃p q w,z=(.slice p q w)∧
 ∃(d:(Option Addr)→Nat→Nat→Int→Heap→Prop) (u:(Option Addr)→Nat→Nat→Int→Heap→Nat),d none 0 0 0 aa∧
 ∀(g:Option Addr) (i:Nat) (j:Nat) (k:Int),∀r:Heap,d g i j k r→qe0.l1 a b K p q d u g i j k r
theorem qe0.call {a b c H K:_}(hK:qe0.code a b c H K):CF 73 ⟨[PA a b,I64 c]⟩ H K:=
 cE Tryz.func73 (.r (.r (.r (.r (.seq (.r (.blk (.loop [(5,.one (.slice)),(34,.one (.int .i64))] (.r (.seq (.cond .no .no) (.seq (.blk (.r (.r .reg))) .reg)))))) (.r .no)))))) hK
def qop.code (i j:Nat)(ad r1 r2 r3 r4 r5 r6 r7 ae af ag:Int)(ah:Option Addr)(ai aj:Nat)(H:Heap)(K:KT):Prop:=
 AL H [I64 ad,I64 r1,I64 r2,I64 r3,I64 r4,I64 r5,I64 r6,I64 r7,I64 ae,I64 af,I64 ag,.slice ah ai aj] 46 fun e ab=>
 ∃m,q00 ab e 6=some (I64 m)∧
 ST ab i (j+9) [I64 m] fun b=>
 ∃n,q00 b i (j+18)=some (.map n)∧
 ∃o,q00 b e 1=some (I64 o)∧
 ∃a,q09 Tryz.prog (Instr.lookup 113 (.map n) (I64 o) false) b (.pointer a)∧
 ∃c,q00 b e 4=some (I64 c)∧
 NN a (
 ∃p,q00 b (adrB a) ((adrO a)+1)=some (.pointer p)∧
 ∃d,CQ 82 #[.pointer p] b (I64 d)∧
 ∃f,(((!decide (c=d))=false)→q00 b e 5=some (I64 f))∧
 (((!decide (c=d))=false)→isA a)∧
 ∃g,(((!decide (c=d))=false)→q00 b (adrB a) ((adrO a)+2)=some (I64 g))∧
 ((((!decide (c=d)) || (decide (f < g)))=false)→isA a)∧
 ∃q,((((!decide (c=d)) || (decide (f < g)))=false)→q00 b (adrB a) (adrO a)=some (.pointer q))∧
 ∃r,((((!decide (c=d)) || (decide (f < g)))=false)→CQ 70 #[.pointer q] b (.bool r))∧
 IF (((!decide (c=d)) || (decide (f < g))) || r) (
 K (.tuple #[]) b) (
 ∃s,q00 b e 1=some (I64 s)∧
 ∃t,q00 b e 5=some (I64 t)∧
 CF 91 #[PA i j,I64 s,.pointer a,I64 t] b fun al am=>∃u v w,al=(.tuple #[.agg #[I64 u,I64 v],I64 w])∧
 AL am [I64 0,I64 0] 53 fun ac an=>
 ST an ac 0 [I64 u,I64 v] fun l=>
 IF (!decide (w=0)) (
 K (.tuple #[]) l) (
 ∃x,q00 l e 5=some (I64 x)∧
 NN a (
 ST l (adrB a) ((adrO a)+2) [I64 x] fun k=>
 ∃y,q00 k i (j+16)=some (.pointer y)∧
 ∃z,q00 k e 1=some (I64 z)∧
 ∃aa,q00 k ac 0=some (I64 aa)∧
 CF 148 #[.pointer y,I64 z,I64 aa] k fun ao ap=>∃ak,ao=(I64 ak)∧
 K (.tuple #[]) ap))))
theorem qop.call {a b c d e f g i j k l m n o p q H K:_}(hK:qop.code a b c d e f g i j k l m n o p q H K):CF 72 ⟨[PA a b,.agg #[I64 c,I64 d,I64 e,I64 f,I64 g,I64 i,I64 j,I64 k,I64 l,I64 m,I64 n,.slice o p q]]⟩ H K:=
 cE Tryz.func72 (.r (.r (.r (.seq (.r (.cond .no .no)) (.r (.seq (.r (.cond .no .no)) (.r .reg))))))) hK
def qah.l1 (a5 a6:Nat)(K:KT)(c:Nat)(d:Option Addr)(a7:Int)(a8:Option Addr)(o:Nat)(a9:(Option Addr)→Nat→Nat→Int→Heap→Prop)(p:(Option Addr)→Nat→Nat→Int→Heap→Nat)(f:Option Addr)(g i:Nat)(a:Int)(b:Heap):Prop:=
 IF (decide (a < (o:Int))) (
 ((0:Int)≤a∧a < (o:Int))∧∃ay az:Nat,(a8=some ⟨ay,az,none⟩)∧
 ∃c0 q r s t u,q01 b ay (az+a.toNat*4) [I64 c0,I64 q,.string r,.slice s t u]∧
 AL b [I64 0,I64 0,(.string (⟨#[]⟩:ByteArray)),.slice none 0 0] 95 fun a0 ba=>
 ST ba a0 0 [I64 c0,I64 q,.string r,.slice s t u] fun m=>
 ∃v,q00 m c 1=some (I64 v)∧
 ∃w x y z aa ab,q01 m a0 0 [I64 w,I64 x,.string y,.slice z aa ab]∧
 CF 147 #[PA a5 a6,I64 v,.pointer d,.agg #[I64 w,I64 x,.string y,.slice z aa ab]] m fun bb bc=>∃ac ad ae af,bb=(.tuple #[.agg #[I64 ac,I64 ad],.agg #[I64 ae,I64 af]])∧
 AL bc [I64 0,I64 0] 51 fun a1 bd=>
 AL bd [I64 0,I64 0] 53 fun a2 be=>
 ST be a1 0 [I64 ac,I64 ad] fun bf=>
 ST bf a2 0 [I64 ae,I64 af] fun n=>
 ∃ag,q00 n c 1=some (I64 ag)∧
 ∃ah,q00 n c 2=some (I64 ah)∧
 AL n [I64 0,I64 0,I64 0] 49 fun a3 bg=>
 ST bg a3 0 [I64 ag,I64 ah,I64 (i64.wrap (a7+a))] fun e=>
 ∃ai aj ak,q01 e a3 0 [I64 ai,I64 aj,I64 ak]∧
 ∃al am,q01 e a1 0 [I64 al,I64 am]∧
 ∃an ao,q01 e a2 0 [I64 an,I64 ao]∧
 AL e ([I64 3,I64 0,I64 0,I64 0,I64 0,I64 0,I64 ai,I64 aj,I64 ak,I64 al,I64 am,I64 an,I64 ao,I64 0,(.string (⟨#[]⟩:ByteArray)),I64 0,I64 0,.int .u64 0,I64 0,I64 0,I64 0,I64 0]++vecL .i64 Z0 65 0) 66 fun bh bi=>
 RunW Tryz.prog (Builtin.append_ #[39,39] 39 #[.slice f g i,.slice (some ⟨bh,0,none⟩) 1 1]) bi fun bj a4=>
 ∃j k l,bj=(.slice j k l)∧
 a9 j k l (i64.wrap (a+1)) a4∧p j k l (i64.wrap (a+1)) a4 < p f g i a b) (
 ∃ap,q00 b c 1=some (I64 ap)∧
 ∃aq,q00 b c 2=some (I64 aq)∧
 NN d (
 ∃ar,q00 b (adrB d) ((adrO d)+1)=some (.pointer ar)∧
 ∃au,CQ 82 #[.pointer ar] b (I64 au)∧
 AL b ([I64 2,I64 ap,I64 aq,I64 0,I64 au,I64 0,I64 0,I64 0,I64 0,I64 0,I64 0,I64 0,I64 0,I64 0,(.string (⟨#[]⟩:ByteArray)),I64 0,I64 0,.int .u64 0,I64 0,I64 0,I64 0,I64 0]++vecL .i64 Z0 65 0) 66 fun bk bl=>
 RunW Tryz.prog (Builtin.append_ #[39,39] 39 #[.slice f g i,.slice (some ⟨bk,0,none⟩) 1 1]) bl fun bm bn=>
 ∃av aw ax,bm=(.slice av aw ax)∧
 K (.slice av aw ax) bn))
def qah.code (d e:Nat)(ad r1 r2 r3 r4 r5 r6 r7 ae af ag:Int)(ah:Option Addr)(ai aj:Nat)(H:Heap)(K:KT):Prop:=
 AL H [I64 ad,I64 r1,I64 r2,I64 r3,I64 r4,I64 r5,I64 r6,I64 r7,I64 ae,I64 af,I64 ag,.slice ah ai aj] 46 fun c ac=>
 ∃o,q00 ac c 6=some (I64 o)∧
 ST ac d (e+9) [I64 o] fun b=>
 ∃p,q00 b d (e+18)=some (.map p)∧
 ∃q,q00 b c 1=some (I64 q)∧
 ∃a,q09 Tryz.prog (Instr.lookup 113 (.map p) (I64 q) false) b (.pointer a)∧
 NN a (
 ∃r,q00 b (adrB a) ((adrO a)+1)=some (.pointer r)∧
 ∃s,CQ 82 #[.pointer r] b (I64 s)∧
 NN a (
 ∃g,q00 b (adrB a) ((adrO a)+1)=some (.pointer g)∧
 ∃i,q00 b c 4=some (I64 i)∧
 ∃t u v,q00 b c 11=some (.slice t u v)∧
 CF 146 #[.slice t u v] b fun an j=>∃w x y,an=(.slice w x y)∧
 q00 j c 4=some (I64 i)∧
 q00 j (adrB a) ((adrO a)+1)=some (.pointer g)∧
 CF 145 #[.pointer g,I64 i,.slice w x y] j fun ao ap=>∃z aa al am,ao=(.tuple #[.slice z aa al,I64 am])∧
 ∃(f:(Option Addr)→Nat→Nat→Int→Heap→Prop) (ak:(Option Addr)→Nat→Nat→Int→Heap→Nat),f none 0 0 0 ap∧
 ∀(k:Option Addr) (l:Nat) (m:Nat) (n:Int),∀ab:Heap,f k l m n ab→qah.l1 d e K c a s z aa f ak k l m n ab))
theorem qah.call {a b c d e f g i j k l m n o p q H K:_}(hK:qah.code a b c d e f g i j k l m n o p q H K):CF 71 ⟨[PA a b,.agg #[I64 c,I64 d,I64 e,I64 f,I64 g,I64 i,I64 j,I64 k,I64 l,I64 m,I64 n,.slice o p q]]⟩ H K:=
 cE Tryz.func71 (.r (.r (.r (.r (.r (.r (.seq (.r (.blk (.loop [(9,.one (.slice)),(47,.one (.int .i64))] (.r (.seq (.cond .no .no) (.seq (.blk (.r (.r (.r .reg)))) .reg)))))) (.r .no)))))))) hK
def q1k.r1 (K:KT)(k b c:Nat)(l:Option Addr)(m n:Nat)(a:Heap):Prop:=
 ∃d,q00 a k 1=some (I64 d)∧
 ∃e,q00 a b (c+1)=some (I64 e)∧
 ∃f,q00 a b c=some (I64 f)∧
 AL a ([I64 1,I64 d,I64 f,I64 e,I64 0,I64 0,I64 0,I64 0,I64 0,I64 0,I64 0,I64 0,I64 0,I64 0,(.string (⟨#[]⟩:ByteArray)),I64 0,I64 0,.int .u64 0,I64 0,I64 0,I64 0,I64 0]++vecL .i64 Z0 65 0) 66 fun o p=>
 RunW Tryz.prog (Builtin.append_ #[39,39] 39 #[.slice l m n,.slice (some ⟨o,0,none⟩) 1 1]) p fun q r=>
 ∃g i j,q=(.slice g i j)∧
 K (.tuple #[.slice g i j,I64 0]) r
def q1k.r2 (a b c:Nat)(n:(Option Addr)→Nat→Nat→Heap→Prop)(o:Option Addr)(p q:Nat)(e:Heap):Prop:=
 ∃f,q00 e a (b+18)=some (.map f)∧
 ∃g,q00 e c 1=some (I64 g)∧
 CF 105 #[PA a b] e fun s i=>∃j,s=(.pointer j)∧
 q00 i c 1=some (I64 g)∧
 q00 i a (b+18)=some (.map f)∧
 RunW Tryz.prog (Instr.mapUpdate 113 (.map f) (I64 g) (.pointer j)) i fun v d=>
 ∃k,q00 d a (b+16)=some (.pointer k)∧
 ∃l,q00 d c 1=some (I64 l)∧
 ∃m,q00 d c 6=some (I64 m)∧
 CF 138 #[.pointer k,I64 l,I64 m] d fun t u=>∃r,t=(I64 r)∧
 n o p q u
def q1k.l3 (u v j w x:Nat)(y:(Option Addr)→Nat→Nat→Heap→Prop)(z:Option Addr)(k:Nat)(aa:(Option Addr)→Nat→Nat→Int→Heap→Prop)(l:(Option Addr)→Nat→Nat→Int→Heap→Nat)(c:Option Addr)(d e:Nat)(b:Int)(a:Heap):Prop:=
 IF (decide (b < (k:Int))) (
 ((0:Int)≤b∧b < (k:Int))∧∃r s:Nat,(z=some ⟨r,s,none⟩)∧
 ∃m,q00 a r (s+b.toNat)=some (I64 m)∧
 ∃n,q00 a j 1=some (I64 n)∧
 ∃o,q00 a w x=some (I64 o)∧
 AL a ([I64 3,I64 0,I64 0,I64 0,I64 0,I64 0,I64 n,I64 o,I64 m,I64 5,I64 0,I64 0,I64 0,I64 0,(.string (⟨#[]⟩:ByteArray)),I64 0,I64 0,.int .u64 0,I64 0,I64 0,I64 0,I64 0]++vecL .i64 Z0 65 0) 66 fun ac ad=>
 RunW Tryz.prog (Builtin.append_ #[39,39] 39 #[.slice c d e,.slice (some ⟨ac,0,none⟩) 1 1]) ad fun ae t=>
 ∃f g i,ae=(.slice f g i)∧
 aa f g i (i64.wrap (b+1)) t∧l f g i (i64.wrap (b+1)) t < l c d e b a) (
 ∃p,q00 a u (v+16)=some (.pointer p)∧
 ∃q,q00 a j 1=some (I64 q)∧
 CF 137 #[.pointer p,I64 q] a fun af ag=>∃ab,af=(I64 ab)∧
 y c d e ag)
def q1k.r4 (d e:Nat)(r1 r2:Int)(K:KT)(b ae af ag ah:Nat)(ai:Bool)(k:Int)(f:Heap):Prop:=
 IF (!decide (k=0)) (
 K (.tuple #[.slice none 0 0,I64 k]) f) (
 ∃v,q00 f b 6=some (I64 v)∧
 ST f d (e+9) [I64 v] fun a=>
 ∀i:(Option Addr)→Nat→Nat→Heap→Prop,(∀(l:Option Addr) (m:Nat) (n:Nat),∀ab:Heap,q1k.r1 K b ag ah l m n ab→i l m n ab)→
 IF ai (
 ∃w,q00 a d (e+18)=some (.map w)∧
 ∃x,q00 a b 1=some (I64 x)∧
 ∃c,q09 Tryz.prog (Instr.lookup 113 (.map w) (I64 x) false) a (.pointer c)∧
 ∀j:(Option Addr)→Nat→Nat→Heap→Prop,(∀(o:Option Addr) (p:Nat) (q:Nat),∀ac:Heap,q1k.r2 d e b i o p q ac→j o p q ac)→
 IF (!c.isNone) (
 NN c (
 ∃y,q00 a (adrB c) ((adrO c)+1)=some (.pointer y)∧
 CF 83 #[.pointer y] a fun al am=>∃z aa ak,al=(.slice z aa ak)∧
 ∃(g:(Option Addr)→Nat→Nat→Int→Heap→Prop) (aj:(Option Addr)→Nat→Nat→Int→Heap→Nat),g none 0 0 0 am∧
 ∀(r:Option Addr) (s:Nat) (t:Nat) (u:Int),∀ad:Heap,g r s t u ad→q1k.l3 d e b ae af j z aa g aj r s t u ad)) (
 j none 0 0 a)) (
 i none 0 0 a))
def q1k.r5 (i j:Nat)(r1 r2 r4:Int)(K:KT)(a ac ad:Nat)(b:Heap):Prop:=
 ∀k:Nat→Nat→Bool→Int→Heap→Prop,(∀(l:Nat) (m:Nat) (n:Bool) (o:Int),∀z:Heap,q1k.r4 i j r1 r2 K a ac ad l m n o z→k l m n o z)→
 ∃d,q00 b i (j+15)=some (.pointer d)∧
 ∃e,q00 b a 1=some (I64 e)∧
 ∃f,q00 b a 3=some (I64 f)∧
 ∃g,q00 b a 6=some (I64 g)∧
 (CF 136 #[.pointer d,I64 e,I64 f,I64 g] b fun ae af=>∃p q r s t,ae=(.tuple #[.agg #[I64 p,I64 q,I64 r],.bool s,I64 t])∧
 AL af [I64 0,I64 0,I64 0] 78 fun aa ag=>
 ST ag aa 0 [I64 p,I64 q,I64 r] fun ah=>
 k aa 0 s t ah)∧
 (AL b [I64 0,I64 0,I64 0] 78 fun ab c=>
 q00 c a 6=some (I64 g)∧
 q00 c a 3=some (I64 f)∧
 q00 c a 1=some (I64 e)∧
 q00 c i (j+15)=some (.pointer d)∧
 CF 136 #[.pointer d,I64 e,I64 f,I64 g] c fun ai aj=>∃u v w x y,ai=(.tuple #[.agg #[I64 u,I64 v,I64 w],.bool x,I64 y])∧
 ST aj ab 0 [I64 u,I64 v,I64 w] fun ak=>
 k ab 0 x y ak)
def q1k.code (d e:Nat)(u r1 r2 r3 r4 r5 r6 r7 v w x:Int)(y:Option Addr)(z aa:Nat)(H:Heap)(K:KT):Prop:=
 AL H [I64 u,I64 r1,I64 r2,I64 r3,I64 r4,I64 r5,I64 r6,I64 r7,I64 v,I64 w,I64 x,.slice y z aa] 46 fun g c=>
 ∀f:Nat→Nat→Heap→Prop,(∀(j:Nat) (k:Nat),∀r:Heap,q1k.r5 d e r1 r2 r4 K g j k r→f j k r)→
 ∃a,q00 c d (e+15)=some (.pointer a)∧
 ∃b,q00 c g 1=some (I64 b)∧
 (CF 80 #[.pointer a,I64 b] c fun ad ae=>∃l m n ab,ad=(.tuple #[.agg #[I64 l,I64 m,I64 n],.bool ab])∧
 AL ae [I64 0,I64 0,I64 0] 78 fun s af=>
 ST af s 0 [I64 l,I64 m,I64 n] fun ag=>
 f s 0 ag)∧
 (AL c [I64 0,I64 0,I64 0] 78 fun t i=>
 q00 i g 1=some (I64 b)∧
 q00 i d (e+15)=some (.pointer a)∧
 CF 80 #[.pointer a,I64 b] i fun ah ai=>∃o p q ac,ah=(.tuple #[.agg #[I64 o,I64 p,I64 q],.bool ac])∧
 ST ai t 0 [I64 o,I64 p,I64 q] fun aj=>
 f t 0 aj)
theorem q1k.call {a b c d e f g i j k l m n o p q H K:_}(hK:q1k.code a b c d e f g i j k l m n o p q H K):CF 67 ⟨[PA a b,.agg #[I64 c,I64 d,I64 e,I64 f,I64 g,I64 i,I64 j,I64 k,I64 l,I64 m,I64 n,.slice o p q]]⟩ H K:=
 cE Tryz.func67 (.r (.seq (.regJ [(6,.one (.adr))]) (.seq (.regJ [(8,.one (.adr)),(9,.one (.bool)),(10,.one (.int .i64))]) (.seq (.r (.cond (.r .no) .no)) (.r (.r (.seq (.r (.condJ [(11,.one (.slice))] (.seq (.r (.r (.condJ [(11,.one (.slice))] (.seq (.r (.blk (.loop [(11,.one (.slice)),(64,.one (.int .i64))] (.r (.seq (.cond .no .no) (.seq (.blk (.r .reg)) .reg)))))) .reg) .no))) (.r .reg)) .no)) (.r .no)))))))) hK
def q1l.r1 (K:KT)(a:Heap):Prop:=
 K (I64 0) a
def q1l.r2 (f g:Nat)(r1:Int)(K:KT)(i:Nat)(r:Int)(s:Bool)(a:Heap):Prop:=
 IF s (
 K (I64 22) a) (
 ∃j,q00 a f (g+9)=some (I64 j)∧
 IF (decide (r < j)) (
 K (I64 11) a) (
 ∃k,q00 a i 0=some (I64 k)∧
 ∀e:Heap→Prop,(∀l,q1l.r1 K l→e l)→
 IF (decide (k=4)) (
 ∃m,q00 a f (g+18)=some (.map m)∧
 ∃n,q00 a i 1=some (I64 n)∧
 ∃b,q09 Tryz.prog (Instr.lookup 113 (.map m) (I64 n) false) a (.pointer b)∧
 NN b (
 ∃o,q00 a (adrB b) (adrO b)=some (.pointer o)∧
 CF 84 #[.pointer o] a fun v d=>∃t c u,v=(.slice t c u)∧
 (((decide ((c:Int)=0))=true)→isA b)∧
 ∃p,(((decide ((c:Int)=0))=true)→q00 d (adrB b) (adrO b)=some (.pointer p))∧
 ∃q,(((decide ((c:Int)=0))=true)→CQ 70 #[.pointer p] d (.bool q))∧
 IF ((decide ((c:Int)=0)) && (!q)) (
 K (I64 19) d) (
 e d))) (
 e a)))
def q1l.r3 (e f:Nat)(r1 r2:Int)(K:KT)(c:Nat)(n:Int)(b:Heap):Prop:=
 ∀d:Bool→Heap→Prop,(∀g i,q1l.r2 e f r1 K c n g i→d g i)→
 ∃a,q00 b c 2=some (I64 a)∧
 (((decide (0 < a))=true)→True)∧
 ∃j,(((decide (0 < a))=true)→q00 b e (f+15)=some (.pointer j))∧
 ∃k,(((decide (0 < a))=true)→q00 b c 1=some (I64 k))∧
 ∃l,(((decide (0 < a))=true)→q00 b c 2=some (I64 l))∧
 (((decide (0 < a))=true)→
 CF 135 #[.pointer j,I64 k,I64 l] b fun o p=>∃m,o=(.bool m)∧
 d (!m) p)∧
 (¬((decide (0 < a))=true)→
 d false b)
def q1l.code (d e:Nat)(o r1 r2 r3 r4 r5 r6 r7 p q r:Int)(s:Option Addr)(t u:Nat)(H:Heap)(K:KT):Prop:=
 AL H [I64 o,I64 r1,I64 r2,I64 r3,I64 r4,I64 r5,I64 r6,I64 r7,I64 p,I64 q,I64 r,.slice s t u] 46 fun b a=>
 ∃g,q00 a b 6=some (I64 g)∧
 ∃c,q00 a b 0=some (I64 c)∧
 IF (decide (c=1)) (
 ∃i,q00 a d (e+10)=some (I64 i)∧
 IF (decide (1099511627776≤i)) (
 K (I64 17) a) (
 K (I64 0) a)) (
 IF (decide (c=7)) (
 ∃j,q00 a b 4=some (I64 j)∧
 ∃k,CQ 134 #[PA d e] a (I64 k)∧
 IF (decide (k < j)) (
 K (I64 11) a) (
 K (I64 0) a)) (
 ∀f:Int→Heap→Prop,(∀l m,q1l.r3 d e r1 r2 K b l m→f l m)→
 IF (decide (c=3)) (
 ∃n,q00 a b 10=some (I64 n)∧
 f n a) (
 f g a)))
theorem q1l.call {a b c d e f g i j k l m n o p q H K:_}(hK:q1l.code a b c d e f g i j k l m n o p q H K):CF 66 ⟨[PA a b,.agg #[I64 c,I64 d,I64 e,I64 f,I64 g,I64 i,I64 j,I64 k,I64 l,I64 m,I64 n,.slice o p q]]⟩ H K:=
 cE Tryz.func66 (.r (.r (.seq (.r (.blk (.r (.cond (.seq (.r (.cond (.r .no) .no)) (.r .no)) (.r (.cond (.seq (.r (.cond (.r .no) .no)) (.r .no)) (.r (.condJ [(5,.one (.int .i64))] .reg .no)))))))) (.seq (.seq (.regJ [(44,.one (.bool))]) (.cond (.r .no) .no)) (.seq (.r (.cond (.r .no) .no)) (.seq (.r (.condJ [] (.r (.r (.cond (.r .no) .no))) .no)) (.r .no))))))) hK
def q72.code (ae:Int)(af:ByteArray)(c0 ag ah ai aj ak al:Int)(am:Nat→Int)(H:Heap)(K:KT):Prop:=
 AL H [I64 ae,.string af] 55 fun b an=>
 AL an ([I64 c0,I64 ag,.int .u64 ah,I64 ai,I64 aj,I64 ak,I64 al]++vecL .i64 am 65 0) 62 fun m l=>
 ∃q,q00 l b 0=some (I64 q)∧
 ∃a,q00 l b 1=some (.string a)∧
 ∃c d e f g i j k,q01 l m 0 ([I64 c,I64 d,.int .u64 e,I64 f,I64 g,I64 i,I64 j]++vecL .i64 k 65 0)∧
 AL l [I64 q] 2 fun ao n=>
 q01 n m 0 ([I64 c,I64 d,.int .u64 e,I64 f,I64 g,I64 i,I64 j]++vecL .i64 k 65 0)∧
 q00 n b 1=some (.string a)∧
 CF 59 #[.slice (some ⟨ao,0,none⟩) 1 1] n fun ap o=>∃r s t,ap=(.slice r s t)∧
 q01 o m 0 ([I64 c,I64 d,.int .u64 e,I64 f,I64 g,I64 i,I64 j]++vecL .i64 k 65 0)∧
 q00 o b 1=some (.string a)∧
 CF 133 #[.agg ⟨[I64 c,I64 d,.int .u64 e,I64 f,I64 g,I64 i,I64 j]++vecL .i64 k 65 0⟩] o fun aq p=>∃u v w,aq=(.slice u v w)∧
 q00 p b 1=some (.string a)∧
 ∃ad:ByteArray,q09 Tryz.prog (convert 24 9 (.slice u v w)) p (.string ad)∧
 AL p [.string a,.string ad] 9 fun ar au=>
 CF 132 #[.slice (some ⟨ar,0,none⟩) 2 2] au fun av aw=>∃x y z,av=(.slice x y z)∧
 RunW Tryz.prog (Builtin.append_ #[24,24] 24 #[.slice r s t,.slice x y z]) aw fun ax ay=>
 ∃aa ab ac,ax=(.slice aa ab ac)∧
 K (.slice aa ab ac) ay
theorem q72.call {a b c d e f g i j k H K:_}(hK:q72.code a b c d e f g i j k H K):CF 65 ⟨[.agg #[I64 a,.string b],.agg ⟨[I64 c,I64 d,.int .u64 e,I64 f,I64 g,I64 i,I64 j]++vecL .i64 k 65 0⟩]⟩ H K:=
 cE Tryz.func65 (.r (.r .no)) hK
def q1g.l1 (K:KT)(ah:Option Addr)(j:Nat)(ai:Option Addr)(aj:Nat)(ak:(Option Addr)→Nat→Nat→Int→Heap→Prop)(k:(Option Addr)→Nat→Nat→Int→Heap→Nat)(c:Option Addr)(d e:Nat)(a:Int)(b:Heap):Prop:=
 IF (decide (a < (j:Int))) (
 ((0:Int)≤a∧a < (j:Int))∧∃ab ac:Nat,(ah=some ⟨ab,ac,none⟩)∧
 ∃l,q00 b ab (ac+a.toNat)=some (I64 l)∧
 AL b [I64 l] 2 fun al am=>
 CF 57 #[.slice (some ⟨al,0,none⟩) 1 1] am fun an ao=>∃m n o,an=(.slice m n o)∧
 RunW Tryz.prog (Builtin.append_ #[24,24] 24 #[.slice c d e,.slice m n o]) ao fun ap af=>
 ∃p q r,ap=(.slice p q r)∧
 ((0:Int)≤a∧a < (aj:Int))∧∃ad ae:Nat,(ai=some ⟨ad,ae,none⟩)∧
 ∃s t u v w x,q01 af ad (ae+a.toNat*4) [I64 s,I64 t,.string u,.slice v w x]∧
 CF 95 #[.agg #[I64 s,I64 t,.string u,.slice v w x]] af fun aq ar=>∃y z aa,aq=(.slice y z aa)∧
 RunW Tryz.prog (Builtin.append_ #[24,24] 24 #[.slice p q r,.slice y z aa]) ar fun au ag=>
 ∃f g i,au=(.slice f g i)∧
 ak f g i (i64.wrap (a+1)) ag∧k f g i (i64.wrap (a+1)) ag < k c d e a b) (
 K (.slice c d e) b)
def q1g.l2 (K:KT)(a a0:Option Addr)(q:Nat)(a1:(Option Addr)→Nat→Nat→Int→Heap→Prop)(r:(Option Addr)→Nat→Nat→Int→Heap→Nat)(f:Option Addr)(g i:Nat)(b:Int)(c:Heap):Prop:=
 IF (decide (b < (q:Int))) (
 ((0:Int)≤b∧b < (q:Int))∧∃av aw:Nat,(a0=some ⟨av,aw,none⟩)∧
 ∃c0 w x y,q01 c av (aw+b.toNat*4) [I64 c0,I64 w,I64 x,I64 y]∧
 AL c [I64 0,I64 0,I64 0,I64 0] 43 fun d a5=>
 ST a5 d 0 [I64 c0,I64 w,I64 x,I64 y] fun e=>
 ∃z,q00 e d 0=some (I64 z)∧
 ∃aa,q00 e d 1=some (I64 aa)∧
 ∃ab,q00 e d 2=some (I64 ab)∧
 ∃ac,q00 e d 3=some (I64 ac)∧
 AL e [I64 z,I64 aa,I64 ab,I64 ac] 2 fun a6 a7=>
 CF 57 #[.slice (some ⟨a6,0,none⟩) 4 4] a7 fun a8 a9=>∃ad ae af,a8=(.slice ad ae af)∧
 RunW Tryz.prog (Builtin.append_ #[24,24] 24 #[.slice f g i,.slice ad ae af]) a9 fun ba ay=>
 ∃l m n,ba=(.slice l m n)∧
 a1 l m n (i64.wrap (b+1)) ay∧r l m n (i64.wrap (b+1)) ay < r f g i b c) (
 NN a (
 ∃ag,q00 c (adrB a) ((adrO a)+1)=some (.pointer ag)∧
 NN a (
 ∃o,q00 c (adrB a) ((adrO a)+1)=some (.pointer o)∧
 CF 83 #[.pointer ag] c fun bb az=>∃ah j a3,bb=(.slice ah j a3)∧
 q00 az (adrB a) ((adrO a)+1)=some (.pointer o)∧
 CF 90 #[.pointer o] az fun bc bd=>∃ai,bc=(.pointer ai)∧
 CF 126 #[.pointer ai] bd fun be p=>∃aj ak a4,be=(.slice aj ak a4)∧
 NN a (
 ∃al,q00 p (adrB a) ((adrO a)+1)=some (.pointer al)∧
 ∃am,CQ 82 #[.pointer al] p (I64 am)∧
 AL p [I64 am,(I64 (j:Int))] 2 fun bf bg=>
 CF 57 #[.slice (some ⟨bf,0,none⟩) 2 2] bg fun bh bi=>∃an ao ap,bh=(.slice an ao ap)∧
 RunW Tryz.prog (Builtin.append_ #[24,24] 24 #[.slice f g i,.slice an ao ap]) bi fun bj bk=>
 ∃aq ar au,bj=(.slice aq ar au)∧
 ∃(k:(Option Addr)→Nat→Nat→Int→Heap→Prop) (a2:(Option Addr)→Nat→Nat→Int→Heap→Nat),k aq ar au 0 bk∧
 ∀(s:Option Addr) (t:Nat) (u:Nat) (v:Int),∀ax:Heap,k s t u v ax→q1g.l1 K ah j aj ak k a2 s t u v ax))))
def q1g.code (r s:Nat)(j a1 a2 a3:Int)(H:Heap)(K:KT):Prop:=
 AL H [I64 a1,I64 a2,I64 a3] 78 fun c f=>
 ∃x,q00 f r (s+18)=some (.map x)∧
 ∃a,q09 Tryz.prog (Instr.lookup 113 (.map x) (I64 j) false) f (.pointer a)∧
 ∃y,q00 f r (s+16)=some (.pointer y)∧
 CF 81 #[.pointer y,I64 j] f fun a7 a8=>∃z r1 r2 r3 a5,a7=(.tuple #[.agg #[I64 z,.bool r1,.bool r2,.bool r3],.bool a5])∧
 AL a8 [I64 0,.bool false,.bool false,.bool false] 80 fun d a9=>
 ST a9 d 0 [I64 z,.bool r1,.bool r2,.bool r3] fun b=>
 ∃m,q00 b c 0=some (I64 m)∧
 ∃n,q00 b c 1=some (I64 n)∧
 ∃o,q00 b c 2=some (I64 o)∧
 ∃p,q00 b d 0=some (I64 p)∧
 ∃aa,q00 b d 1=some (.bool aa)∧
 ∃ab,q00 b d 2=some (.bool ab)∧
 ∃ac,q00 b d 3=some (.bool ac)∧
 AL b [.bool aa,.bool ab,.bool ac] 4 fun ba e=>
 q00 e d 0=some (I64 p)∧
 q00 e c 2=some (I64 o)∧
 q00 e c 1=some (I64 n)∧
 q00 e c 0=some (I64 m)∧
 ∃r4,CQ 124 #[.slice (some ⟨ba,0,none⟩) 3 3] e (I64 r4)∧
 AL e [I64 j,I64 m,I64 n,I64 o,I64 p,I64 r4] 2 fun bb bc=>
 CF 57 #[.slice (some ⟨bb,0,none⟩) 6 6] bc fun bd az=>∃ad ae af,bd=(.slice ad ae af)∧
 NN a (
 ∃ag,q00 az (adrB a) ((adrO a)+2)=some (I64 ag)∧
 AL az [I64 ag] 2 fun be bf=>
 CF 59 #[.slice (some ⟨be,0,none⟩) 1 1] bf fun bg bh=>∃ah ai aj,bg=(.slice ah ai aj)∧
 RunW Tryz.prog (Builtin.append_ #[24,24] 24 #[.slice ad ae af,.slice ah ai aj]) bh fun bi a0=>
 ∃ak al am,bi=(.slice ak al am)∧
 NN a (
 ∃an,q00 a0 (adrB a) (adrO a)=some (.pointer an)∧
 CF 84 #[.pointer an] a0 fun bj g=>∃ao k a6,bj=(.slice ao k a6)∧
 NN a (
 ∃ap,q00 g (adrB a) (adrO a)=some (.pointer ap)∧
 ∃r5,CQ 70 #[.pointer ap] g (.bool r5)∧
 NN a (
 ∃q,q00 g (adrB a) (adrO a)=some (.pointer q)∧
 AL g [.bool r5] 4 fun bk i=>
 q00 i (adrB a) (adrO a)=some (.pointer q)∧
 ∃r6,CQ 124 #[.slice (some ⟨bk,0,none⟩) 1 1] i (I64 r6)∧
 ∃r7,CQ 125 #[.pointer q] i (I64 r7)∧
 AL i [I64 r6,I64 r7,(I64 (k:Int))] 2 fun bl bm=>
 CF 57 #[.slice (some ⟨bl,0,none⟩) 3 3] bm fun bn bo=>∃aq ar au,bn=(.slice aq ar au)∧
 RunW Tryz.prog (Builtin.append_ #[24,24] 24 #[.slice ak al am,.slice aq ar au]) bo fun bp bq=>
 ∃av aw ax,bp=(.slice av aw ax)∧
 ∃(l:(Option Addr)→Nat→Nat→Int→Heap→Prop) (a4:(Option Addr)→Nat→Nat→Int→Heap→Nat),l av aw ax 0 bq∧
 ∀(t:Option Addr) (u:Nat) (v:Nat) (w:Int),∀ay:Heap,l t u v w ay→q1g.l2 K a ao k l a4 t u v w ay))))
theorem q1g.call {a b c d e f H K:_}(hK:q1g.code a b c d e f H K):CF 62 ⟨[PA a b,I64 c,.agg #[I64 d,I64 e,I64 f]]⟩ H K:=
 cE Tryz.func62 (.r (.r (.r (.r (.r (.r (.r (.seq (.r (.blk (.loop [(10,.one (.slice)),(85,.one (.int .i64))] (.r (.seq (.cond .no .no) (.seq (.blk (.r .reg)) .reg)))))) (.r (.r (.seq (.r (.blk (.loop [(10,.one (.slice)),(126,.one (.int .i64))] (.r (.seq (.cond .no .no) (.seq (.blk (.r (.r .reg))) .reg)))))) (.r .no)))))))))))) hK
def q6l.l1 (s:Option Addr)(j:Nat)(K:KT)(t:(Option Addr)→Nat→Nat→Int→Heap→Prop)(k:(Option Addr)→Nat→Nat→Int→Heap→Nat)(c:Option Addr)(d e:Nat)(a:Int)(b:Heap):Prop:=
 IF (decide (a < (j:Int))) (
 ((0:Int)≤a∧a < (j:Int))∧∃p q:Nat,(s=some ⟨p,q,none⟩)∧
 ∃l,q00 b p (q+a.toNat)=some (I64 l)∧
 AL b [.int .u64 (u64.wrap l)] 56 fun u v=>
 CF 117 #[.slice (some ⟨u,0,none⟩) 1 1] v fun w x=>∃m n o,w=(.slice m n o)∧
 RunW Tryz.prog (Builtin.append_ #[24,24] 24 #[.slice c d e,.slice m n o]) x fun y r=>
 ∃f g i,y=(.slice f g i)∧
 t f g i (i64.wrap (a+1)) r∧k f g i (i64.wrap (a+1)) r < k c d e a b) (
 K (.slice c d e) b)
def q6l.code (g:Option Addr)(i k:Nat)(H:Heap)(K:KT):Prop:=
 ∃(a:(Option Addr)→Nat→Nat→Int→Heap→Prop) (j:(Option Addr)→Nat→Nat→Int→Heap→Nat),a none 0 0 0 H∧
 ∀(b:Option Addr) (c:Nat) (d:Nat) (e:Int),∀f:Heap,a b c d e f→q6l.l1 g i K a j b c d e f
theorem q6l.call {a b c H K:_}(hK:q6l.code a b c H K):CF 57 ⟨[.slice a b c]⟩ H K:=
 cE Tryz.func57 (.r (.r (.seq (.r (.blk (.loop [(3,.one (.slice)),(8,.one (.int .i64))] (.r (.seq (.cond .no .no) (.seq (.blk (.r .reg)) .reg)))))) (.r .no)))) hK
def qk2.code (g:Option Addr)(H:Heap)(K KP:Value→Heap→Prop):Prop:=
 AL H [.pointer g] 109 fun e f=>
 ∃b,q00 f e 0=some (.pointer b)∧
 CF 114 #[.pointer b] f fun i a=>∃c,i=(.int .u64 c)∧
 ∃d,q00 a e 0=some (.pointer d)∧
 ∃r1,CQ 102 #[.pointer d] a (I64 r1)∧
 CP 45 #[I64 r1] a (fun j k=>j=(.tuple #[])∧
 K (.int .u64 c) k) (fun l m=>
 KP l m)
theorem qk2.call {a H K KP:_}(hK:qk2.code a H K KP):CP 49 ⟨[.agg #[.pointer a]]⟩ H K KP:=
 cP Tryz.func49 (.r (.r (.r (.r .no)))) (by kernel_rfl) hK
def q97.r1 (K KP:Value→Heap→Prop)(m n aj ak:Nat)(r1:ByteArray)(al:Heap):Prop:=
 RunW Tryz.prog (convert 9 24 (.string r1)) al fun am an=>
 ∃o p q,am=(.slice o p q)∧
 CF 113 #[.slice o p q] an fun ao ap=>∃r s t u v r5 r6 r7 w,ao=(.tuple #[.agg ⟨[I64 r,I64 s,.int .u64 t,I64 u,I64 v,I64 r5,I64 r6]++vecL .i64 r7 65 0⟩,I64 w])∧
 AL ap ([I64 0,I64 0,.int .u64 0,I64 0,I64 0,I64 0,I64 0]++vecL .i64 Z0 65 0) 62 fun j aq=>
 ST aq j 0 ([I64 r,I64 s,.int .u64 t,I64 u,I64 v,I64 r5,I64 r6]++vecL .i64 r7 65 0) fun ar=>
 CP 45 #[I64 w] ar (fun au k=>au=(.tuple #[])∧
 ∃c0 x,q01 k aj ak [I64 c0,.string x]∧
 ∃a b c d e f g i,q01 k j 0 ([I64 a,I64 b,.int .u64 c,I64 d,I64 e,I64 f,I64 g]++vecL .i64 i 65 0)∧
 ST k m 0 [I64 c0,.string x] fun ai=>
 q01 ai j 0 ([I64 a,I64 b,.int .u64 c,I64 d,I64 e,I64 f,I64 g]++vecL .i64 i 65 0)∧
 ST ai n 0 ([I64 a,I64 b,.int .u64 c,I64 d,I64 e,I64 f,I64 g]++vecL .i64 i 65 0) fun l=>
 ∃y z,q01 l m 0 [I64 y,.string z]∧
 ∃aa ab ac ad ae af ag ah,q01 l n 0 ([I64 aa,I64 ab,.int .u64 ac,I64 ad,I64 ae,I64 af,I64 ag]++vecL .i64 ah 65 0)∧
 K (.tuple #[.agg #[I64 y,.string z],.agg ⟨[I64 aa,I64 ab,.int .u64 ac,I64 ad,I64 ae,I64 af,I64 ag]++vecL .i64 ah 65 0⟩]) l) (fun av aw=>
 KP av aw)
def q97.r2 (K KP:Value→Heap→Prop)(c u v d e:Nat)(a:Heap):Prop:=
 ∃g,q00 a c 0=some (.pointer g)∧
 ∃i,q00 a c 0=some (.pointer i)∧
 ∃j,CQ 111 #[.pointer i] a (I64 j)∧
 CF 110 #[.pointer g,I64 j] a fun w f=>∃r1,w=(.string r1)∧
 ∃k,q00 f c 0=some (.pointer k)∧
 ∃r2,CQ 102 #[.pointer k] f (I64 r2)∧
 CP 45 #[I64 r2] f (fun x t=>x=(.tuple #[])∧
 ∃l,q00 t d (e+1)=some (.string l)∧
 CF 112 #[.string l] t fun y z=>∃m n o p r3,y=(.tuple #[.agg #[.string m,.slice n o p],.bool r3])∧
 AL z [(.string (⟨#[]⟩:ByteArray)),.slice none 0 0] 93 fun aa ab=>
 ST ab aa 0 [.string m,.slice n o p] fun b=>
 ∃q,(((!r3)=false)→q00 b d e=some (I64 q))∧
 ∃r4,(((!r3)=false)→CQ 97 #[I64 q,I64 0,I64 4611686018427387903] b (.bool r4))∧
 ∀s:Heap→Prop,(∀r,q97.r1 K KP u v d e r1 r→s r)→
 IF ((!r3) || (!r4)) (
 KP (.iface 28 (I64 10)) b) (
 s b)) (fun ac ad=>
 KP ac ad)
def q97.code (y:Option Addr)(H:Heap)(K KP:Value→Heap→Prop):Prop:=
 AL H [.pointer y] 109 fun a z=>
 AL z [I64 0,(.string (⟨#[]⟩:ByteArray))] 55 fun aa ab=>
 AL ab ([I64 0,I64 0,.int .u64 0,I64 0,I64 0,I64 0,I64 0]++vecL .i64 Z0 65 0) 62 fun ac d=>
 ∀i:Nat→Nat→Heap→Prop,(∀(n:Nat) (o:Nat),∀u:Heap,q97.r2 K KP a aa ac n o u→i n o u)→
 ∃f,q01 d a 0 [.pointer f]∧
 ∃b,q00 d a 0=some (.pointer b)∧
 ∃c,q00 d a 0=some (.pointer c)∧
 (CP 41 #[.agg #[.pointer f]] d (fun ad e=>∃m,ad=(I64 m)∧
 q00 e a 0=some (.pointer c)∧
 q00 e a 0=some (.pointer b)∧
 ∃g,CQ 111 #[.pointer c] e (I64 g)∧
 (CF 110 #[.pointer b,I64 g] e fun ae af=>∃p,ae=(.string p)∧
 AL af [I64 0,(.string (⟨#[]⟩:ByteArray))] 55 fun v ag=>
 ST ag v 0 [I64 m,.string p] fun ah=>
 i v 0 ah)∧
 (AL e [I64 0,(.string (⟨#[]⟩:ByteArray))] 55 fun w j=>
 CQ 111 #[.pointer c] j (I64 g)∧
 q00 j a 0=some (.pointer c)∧
 q00 j a 0=some (.pointer b)∧
 CF 110 #[.pointer b,I64 g] j fun ai aj=>∃q,ai=(.string q)∧
 ST aj w 0 [I64 m,.string q] fun ak=>
 i w 0 ak)) (fun al am=>
 KP al am))∧
 (AL d [I64 0,(.string (⟨#[]⟩:ByteArray))] 55 fun x k=>
 q00 k a 0=some (.pointer c)∧
 q00 k a 0=some (.pointer b)∧
 q01 k a 0 [.pointer f]∧
 CP 41 #[.agg #[.pointer f]] k (fun an l=>∃r,an=(I64 r)∧
 q00 l a 0=some (.pointer c)∧
 q00 l a 0=some (.pointer b)∧
 ∃s,CQ 111 #[.pointer c] l (I64 s)∧
 CF 110 #[.pointer b,I64 s] l fun ao ap=>∃t,ao=(.string t)∧
 ST ap x 0 [I64 r,.string t] fun aq=>
 i x 0 aq) (fun ar au=>
 KP ar au))
theorem q97.call {a H K KP:_}(hK:q97.code a H K KP):CP 47 ⟨[.agg #[.pointer a]]⟩ H K KP:=
 cP Tryz.func47 (.r (.seq (.regJ [(4,.one (.adr))]) (.r (.r (.seq (.r (.r (.condJ [] .reg .no))) (.r (.r (.r .no)))))))) (by kernel_rfl) hK
def q8b.r1 (K:KT)(a:Heap):Prop:=
 K (.tuple #[]) a
def q8b.code (a:Int)(H:Heap)(K KP:Value→Heap→Prop):Prop:=
 ∀c:Heap→Prop,(∀b,q8b.r1 K b→c b)→
 IF (!decide (a=0)) (
 KP (.iface 28 (I64 a)) H) (
 c H)
theorem q8b.call {a H K KP:_}(hK:q8b.code a H K KP):CP 45 ⟨[I64 a]⟩ H K KP:=
 cP Tryz.func45 (.r (.condJ [] .reg .no)) (by kernel_rfl) hK
def q1m.l1 (r s:Nat)(t:Int)(K KP:Value→Heap→Prop)(u c v w:Nat)(r5 x:Option Addr)(y:Int)(z:Int→Heap→Prop)(d:Int→Heap→Nat)(b:Int)(a:Heap):Prop:=
 IF (decide (b < y)) (
 ∃e,q01 a u 0 [.pointer e]∧
 CP 107 #[.agg #[.pointer e],.pointer x] a (fun aa o=>aa=(.tuple #[])∧
 z (i64.wrap (b+1)) o∧d (i64.wrap (b+1)) o < d b a) (fun ab ac=>
 KP ab ac)) (
 ∃f,q00 a r (s+18)=some (.map f)∧
 RunW Tryz.prog (Instr.mapUpdate 113 (.map f) (I64 t) (.pointer r5)) a fun ad p=>
 ∃c0 g i j,q01 p v w [I64 c0,.bool g,.bool i,.bool j]∧
 ST p c 0 [I64 c0,.bool g,.bool i,.bool j] fun q=>
 ∃k l m n,q01 q c 0 [I64 k,.bool l,.bool m,.bool n]∧
 K (.agg #[I64 k,.bool l,.bool m,.bool n]) q)
def q1m.l2 (g i:Nat)(ao:Int)(K KP:Value→Heap→Prop)(a ap aq ar:Nat)(r5:Option Addr)(au av aw:Int)(ax:(Option Addr)→Nat→Nat→Int→Heap→Prop)(v:(Option Addr)→Nat→Nat→Int→Heap→Nat)(j:Option Addr)(k l:Nat)(d:Int)(b:Heap):Prop:=
 IF (decide (d < aw)) (
 ∃w,q01 b a 0 [.pointer w]∧
 ∃n,q01 b a 0 [.pointer n]∧
 ∃e,q01 b a 0 [.pointer e]∧
 ∃c,q01 b a 0 [.pointer c]∧
 CP 43 #[.agg #[.pointer w]] b (fun az f=>∃x,az=(I64 x)∧
 q01 f a 0 [.pointer c]∧
 q01 f a 0 [.pointer e]∧
 q01 f a 0 [.pointer n]∧
 CP 43 #[.agg #[.pointer n]] f (fun a0 t=>∃y,a0=(I64 y)∧
 q01 t a 0 [.pointer c]∧
 q01 t a 0 [.pointer e]∧
 CP 43 #[.agg #[.pointer e]] t (fun a1 ak=>∃z,a1=(I64 z)∧
 q01 ak a 0 [.pointer c]∧
 CP 43 #[.agg #[.pointer c]] ak (fun a2 a3=>∃aa,a2=(I64 aa)∧
 AL a3 [I64 x,I64 y,I64 z,I64 aa] 43 fun a4 a5=>
 RunW Tryz.prog (Builtin.append_ #[166,166] 166 #[.slice j k l,.slice (some ⟨a4,0,none⟩) 1 1]) a5 fun a6 al=>
 ∃o p q,a6=(.slice o p q)∧
 ax o p q (i64.wrap (d+1)) al∧v o p q (i64.wrap (d+1)) al < v j k l d b) (fun a7 a8=>
 KP a7 a8)) (fun a9 ba=>
 KP a9 ba)) (fun bb bc=>
 KP bb bc)) (fun bd be=>
 KP bd be)) (
 NN r5 (
 ∃ab,q00 b (adrB r5) (adrO r5)=some (.pointer ab)∧
 CF 106 #[.pointer ab,.bool (decide (au=1)),I64 av,.slice j k l] b fun bf bg=>∃ac,bf=(I64 ac)∧
 CP 45 #[I64 ac] bg (fun bh u=>bh=(.tuple #[])∧
 ∃ad,q01 u a 0 [.pointer ad]∧
 ∃r,q00 u g (i+8)=some (I64 r)∧
 CP 43 #[.agg #[.pointer ad]] u (fun bi am=>∃ae,bi=(I64 ae)∧
 q00 am g (i+8)=some (I64 r)∧
 CF 56 #[I64 ae,I64 r] am fun bj bk=>∃s af,bj=(.tuple #[.pointer s,I64 af])∧
 CP 45 #[I64 af] bk (fun bl bm=>bl=(.tuple #[])∧
 NN r5 (
 ST bm (adrB r5) ((adrO r5)+1) [.pointer s] fun an=>
 ∃ag,q01 an a 0 [.pointer ag]∧
 CP 42 #[.agg #[.pointer ag],I64 256] an (fun bn bo=>∃ah,bn=(I64 ah)∧
 ∃(m:Int→Heap→Prop) (ay:Int→Heap→Nat),m 0 bo∧
 ∀ai aj,m ai aj→q1m.l1 g i ao K KP a ap aq ar r5 s ah m ay ai aj) (fun bp bq=>
 KP bp bq))) (fun br bs=>
 KP br bs)) (fun bt bu=>
 KP bt bu)) (fun bv bw=>
 KP bv bw)))
def q1m.r3 (r s:Nat)(t:Int)(K KP:Value→Heap→Prop)(a u v w:Nat)(r5:Option Addr)(b:Heap):Prop:=
 ∃j,q01 b a 0 [.pointer j]∧
 ∃d,q01 b a 0 [.pointer d]∧
 CP 49 #[.agg #[.pointer j]] b (fun y p=>∃k,y=(.int .u64 k)∧
 q01 p a 0 [.pointer d]∧
 CP 43 #[.agg #[.pointer d]] p (fun z q=>∃l,z=(I64 l)∧
 ∃m,q01 q a 0 [.pointer m]∧
 CP 42 #[.agg #[.pointer m],I64 8] q (fun aa ab=>∃n,aa=(I64 n)∧
 ∃(c:(Option Addr)→Nat→Nat→Int→Heap→Prop) (x:(Option Addr)→Nat→Nat→Int→Heap→Nat),c none 0 0 0 ab∧
 ∀(e:Option Addr) (f:Nat) (g:Nat) (i:Int),∀o:Heap,c e f g i o→q1m.l2 r s t K KP a u v w r5 k l n c x e f g i o) (fun ac ad=>
 KP ac ad)) (fun ae af=>
 KP ae af)) (fun ag ah=>
 KP ag ah)
def q1m.r4 (e f:Nat)(o:Int)(K KP:Value→Heap→Prop)(d p:Nat)(r3:Int)(a b:Nat)(g:Heap):Prop:=
 ∃i,q01 g d 0 [.pointer i]∧
 CP 49 #[.agg #[.pointer i]] g (fun q r=>∃r4,q=(.int .u64 r4)∧
 ST r a (b+1) [.bool (!decide ((q0d .and .u64 r4 1)=0))] fun s=>
 ST s a (b+2) [.bool (!decide ((q0d .and .u64 r4 2)=0))] fun t=>
 ST t a (b+3) [.bool (!decide ((q0d .and .u64 r4 4)=0))] fun u=>
 CF 105 #[PA e f] u fun v n=>∃r5,v=(.pointer r5)∧
 ∃j,q01 n d 0 [.pointer j]∧
 CP 41 #[.agg #[.pointer j]] n (fun w x=>∃r6,w=(I64 r6)∧
 NN r5 (
 ST x (adrB r5) ((adrO r5)+2) [I64 r6] fun c=>
 NN r5 (
 ∃k,q00 c (adrB r5) ((adrO r5)+2)=some (I64 k)∧
 ∃r7,CQ 97 #[I64 k,I64 (-1),I64 4611686018427387903] c (.bool r7)∧
 ∀m:Heap→Prop,(∀l,q1m.r3 e f o K KP d p a b r5 l→m l)→
 IF (!r7) (
 KP (.iface 28 (I64 10)) c) (
 m c)))) (fun y z=>
 KP y z)) (fun aa ab=>
 KP aa ab)
def q1m.code (aa:Option Addr)(b c:Nat)(p:Int)(H:Heap)(K KP:Value→Heap→Prop):Prop:=
 AL H [.pointer aa] 109 fun a ab=>
 AL ab [I64 0,.bool false,.bool false,.bool false] 80 fun ac e=>
 ∃d,q00 e b (c+15)=some (.pointer d)∧
 ∃s,q01 e a 0 [.pointer s]∧
 ∃l,q01 e a 0 [.pointer l]∧
 ∃f,q01 e a 0 [.pointer f]∧
 CP 43 #[.agg #[.pointer s]] e (fun ad j=>∃t,ad=(I64 t)∧
 q01 j a 0 [.pointer f]∧
 q01 j a 0 [.pointer l]∧
 q00 j b (c+15)=some (.pointer d)∧
 CP 43 #[.agg #[.pointer l]] j (fun ae n=>∃r1,ae=(I64 r1)∧
 q01 n a 0 [.pointer f]∧
 q00 n b (c+15)=some (.pointer d)∧
 CP 43 #[.agg #[.pointer f]] n (fun af x=>∃r2,af=(I64 r2)∧
 q00 x b (c+15)=some (.pointer d)∧
 CF 104 #[.pointer d,I64 p,.agg #[I64 t,I64 r1,I64 r2]] x fun ag ah=>∃r3,ag=(I64 r3)∧
 CP 45 #[I64 r3] ah (fun ai k=>ai=(.tuple #[])∧
 ∀m:Nat→Nat→Heap→Prop,(∀(q:Nat) (r:Nat),∀w:Heap,q1m.r4 b c p K KP a ac r3 q r w→m q r w)→
 ∃g,q01 k a 0 [.pointer g]∧
 ∃i,q00 k b (c+9)=some (I64 i)∧
 (CP 40 #[.agg #[.pointer g],I64 i] k (fun aj ak=>∃u,aj=(I64 u)∧
 AL ak [I64 0,.bool false,.bool false,.bool false] 80 fun y al=>
 ST al y 0 [I64 u,.bool false,.bool false,.bool false] fun am=>
 m y 0 am) (fun an ao=>
 KP an ao))∧
 (AL k [I64 0,.bool false,.bool false,.bool false] 80 fun z o=>
 q00 o b (c+9)=some (I64 i)∧
 q01 o a 0 [.pointer g]∧
 CP 40 #[.agg #[.pointer g],I64 i] o (fun ap aq=>∃v,ap=(I64 v)∧
 ST aq z 0 [I64 v,.bool false,.bool false,.bool false] fun ar=>
 m z 0 ar) (fun au av=>
 KP au av))) (fun aw ax=>
 KP aw ax)) (fun ay az=>
 KP ay az)) (fun a0 a1=>
 KP a0 a1)) (fun a2 a3=>
 KP a2 a3)
theorem q1m.call {a b c d H K KP:_}(hK:q1m.code a b c d H K KP):CP 44 ⟨[.agg #[.pointer a],PA b c,I64 d]⟩ H K KP:=
 cP Tryz.func44 (.r (.r (.seq (.regJ [(7,.one (.adr))]) (.r (.r (.r (.r (.seq (.r (.condJ [] .reg .no)) (.r (.r (.seq (.r (.blk (.loop [(12,.one (.slice)),(71,.one (.int .i64))] (.r (.seq (.cond .no .no) (.seq (.blk .reg) .reg)))))) (.r (.r (.r (.r (.seq (.r (.blk (.loop [(114,.one (.int .i64))] (.r (.seq (.cond .no .no) (.seq (.blk .reg) .reg)))))) (.r (.r .no)))))))))))))))))) (by kernel_rfl) hK
def qtu.code (d:Option Addr)(H:Heap)(K KP:Value→Heap→Prop):Prop:=
 AL H [.pointer d] 109 fun e c=>
 ∃a,q01 c e 0 [.pointer a]∧
 CP 49 #[.agg #[.pointer a]] c (fun f g=>∃b,f=(.int .u64 b)∧
 K (I64 (i64.wrap b)) g) (fun i j=>
 KP i j)
theorem qtu.call {a H K KP:_}(hK:qtu.code a H K KP):CP 43 ⟨[.agg #[.pointer a]]⟩ H K KP:=
 cP Tryz.func43 (.r (.r .no)) (by kernel_rfl) hK
def qoq.code (g:Option Addr)(i:Int)(H:Heap)(K KP:Value→Heap→Prop):Prop:=
 AL H [.pointer g] 109 fun e f=>
 ∃b,q00 f e 0=some (.pointer b)∧
 CF 103 #[.pointer b,I64 i] f fun j a=>∃c,j=(I64 c)∧
 ∃d,q00 a e 0=some (.pointer d)∧
 ∃r1,CQ 102 #[.pointer d] a (I64 r1)∧
 CP 45 #[I64 r1] a (fun k l=>k=(.tuple #[])∧
 K (I64 c) l) (fun m n=>
 KP m n)
theorem qoq.call {a b H K KP:_}(hK:qoq.code a b H K KP):CP 42 ⟨[.agg #[.pointer a],I64 b]⟩ H K KP:=
 cP Tryz.func42 (.r (.r (.r (.r .no)))) (by kernel_rfl) hK
def qk3.code (g:Option Addr)(H:Heap)(K KP:Value→Heap→Prop):Prop:=
 AL H [.pointer g] 109 fun e f=>
 ∃b,q00 f e 0=some (.pointer b)∧
 CF 101 #[.pointer b] f fun i a=>∃c,i=(I64 c)∧
 ∃d,q00 a e 0=some (.pointer d)∧
 ∃r1,CQ 102 #[.pointer d] a (I64 r1)∧
 CP 45 #[I64 r1] a (fun j k=>j=(.tuple #[])∧
 K (I64 c) k) (fun l m=>
 KP l m)
theorem qk3.call {a H K KP:_}(hK:qk3.code a H K KP):CP 41 ⟨[.agg #[.pointer a]]⟩ H K KP:=
 cP Tryz.func41 (.r (.r (.r (.r .no)))) (by kernel_rfl) hK
def qgo.r1 (K:KT)(a:Int)(b:Heap):Prop:=
 K (I64 a) b
def qgo.code (g:Option Addr)(i:Int)(H:Heap)(K KP:Value→Heap→Prop):Prop:=
 AL H [.pointer g] 109 fun j f=>
 ∃c,q01 f j 0 [.pointer c]∧
 CP 43 #[.agg #[.pointer c]] f (fun k b=>∃a,k=(I64 a)∧
 ∃r1,CQ 97 #[I64 a,I64 0,I64 i] b (.bool r1)∧
 ∀e:Heap→Prop,(∀d,qgo.r1 K a d→e d)→
 IF (!r1) (
 KP (.iface 28 (I64 10)) b) (
 e b)) (fun l m=>
 KP l m)
theorem qgo.call {a b H K KP:_}(hK:qgo.code a b H K KP):CP 40 ⟨[.agg #[.pointer a],I64 b]⟩ H K KP:=
 cP Tryz.func40 (.r (.r (.seq (.r (.condJ [] .reg .no)) (.r .no)))) (by kernel_rfl) hK
def qd1.code (a:Value)(H:Heap)(K:KT):Prop:=
 ∃c:Bool,q7d Tryz.prog .eql 20 a .nilIface c∧
 IF c (
 K (I64 0) H) (
 ∃b,∃d:Bool,q5z Tryz.prog (Instr.typeAssert a 20 28 true) (.tuple #[I64 b,.bool d])∧
 IF d (
 K (I64 b) H) (
 panP a (fun e f=>False) H))
theorem qd1.call {a H K:_}(hK:qd1.code a H K):CF 38 ⟨[a]⟩ H K:=
 cE Tryz.func38 (.r (.r (.blk (.r (.cond (.r (.r .no)) (.r (.cond (.r (.r .no)) (.r .reg)))))))) hK
def q22.r1 (K:Heap→Prop)(a:Heap):Prop:=
 K a
def q22.code (e f g i:Nat)(j:Value)(H:Heap)(K:Heap→Prop):Prop:=
 CF 38 #[j] H fun k d=>∃b,k=(I64 b)∧
 ∀a:Heap→Prop,(∀c,q22.r1 K c→a c)→
 IF (!decide (b=0)) (
 ST d e f [.pointer none] fun l=>
 ST l g i [I64 10] fun m=>
 a m) (
 a d)
theorem q22.defq {a b c d e H K:_}{u u':FrameMode}(hu:(u=.returning∧e=.nilIface∧u'=.returning)∨(u=panM e false∧u'=panM e true))(hK:q22.code a b c d e H K):DefQ Tryz.prog 37 [PA a b,PA c d] u H fun u'' H'=>u''=u'∧K H':=
 qme (X:=X) (an:=(.r (.condJ [] .reg .no))) X_P qmf qcn Tryz.func37 hu (by kernel_rfl) hK
def qor.code (b c:Nat)(H:Heap)(K:KT):Prop:=
 ∃a,q00 H b (c+10)=some (I64 a)∧
 K (I64 a) H
theorem qor.call {a b H K:_}(hK:qor.code a b H K):CF 35 ⟨[PA a b]⟩ H K:=
 cE Tryz.func35 (.r (.r .no)) hK
def q0s.r1 (K:KT)(a:Bool)(b:Heap):Prop:=
 K (.bool a) b
def q0s.r2 (r1:Int)(K:KT)(f:Nat)(x y:Int)(a:Heap):Prop:=
 ∀j:Bool→Heap→Prop,(∀k l,q0s.r1 K k l→j k l)→
 ∃m,q00 a f 1=some (I64 m)∧
 ∃b,CQ 97 #[I64 m,I64 0,I64 63] a (.bool b)∧
 ∃n,((b=true)→q00 a f 2=some (I64 n))∧
 ∃c,((b=true)→CQ 97 #[I64 n,I64 x,I64 1099511627776] a (.bool c))∧
 ∃o,(((b && c)=true)→q00 a f 3=some (I64 o))∧
 ∃d,(((b && c)=true)→CQ 97 #[I64 o,I64 y,I64 1099511627776] a (.bool d))∧
 ∃p,((((b && c) && d)=true)→q00 a f 4=some (I64 p))∧
 ∃e,((((b && c) && d)=true)→CQ 97 #[I64 p,I64 0,I64 1099511627776] a (.bool e))∧
 ∃q,(((((b && c) && d) && e)=true)→q00 a f 5=some (I64 q))∧
 ∃g,(((((b && c) && d) && e)=true)→CQ 97 #[I64 q,I64 0,I64 4611686018427387903] a (.bool g))∧
 ∃r,((((((b && c) && d) && e) && g)=true)→q00 a f 6=some (I64 r))∧
 ∃i,((((((b && c) && d) && e) && g)=true)→CQ 97 #[I64 r,I64 0,I64 4611686018427387903] a (.bool i))∧
 ∃s t u v,(((((((b && c) && d) && e) && g) && i)=true)→q01 a f 7 [I64 s,I64 t,I64 u,I64 v])∧
 (((((((b && c) && d) && e) && g) && i)=true)→
 CF 98 #[.agg #[I64 s,I64 t,I64 u,I64 v]] a fun z aa=>∃w,z=(.bool w)∧
 j w aa)∧
 (¬((((((b && c) && d) && e) && g) && i)=true)→
 j false a)
def q0s.r3 (a:Int→Int→Heap→Prop)(b:Int)(c:Heap):Prop:=
 a b 0 c
def q0s.r4 (r3:Int)(e:Int→Int→Heap→Prop)(f:Bool)(b:Heap):Prop:=
 ∀a:Int→Heap→Prop,(∀c d,q0s.r3 e c d→a c d)→
 IF f (
 a 1 b) (
 a 0 b)
def q0s.r5 (a:Bool→Heap→Prop)(b:Bool)(c:Heap):Prop:=
 a b c
def q0s.r6 (r1 r2 r3 r4 r5:Int)(K:KT)(f:Nat)(b:Heap):Prop:=
 ∃a,q00 b f 0=some (I64 a)∧
 ∀c:Int→Int→Heap→Prop,(∀(g:Int) (i:Int),∀n:Heap,q0s.r2 r1 K f g i n→c g i n)→
 IF (decide (a=2)) (
 c 0 1 b) (
 ∀d:Bool→Heap→Prop,(∀j k,q0s.r4 r3 c j k→d j k)→
 IF (decide (a=3)) (
 d (decide (a=3)) b) (
 ∀e:Bool→Heap→Prop,(∀l m,q0s.r5 d l m→e l m)→
 IF (decide (a=4)) (
 e (decide (a=4)) b) (
 e (decide (a=5)) b)))
def q0s.l7 (r1 r2 r3 r4 r5 r6:Int)(K:KT)(e c:Nat)(bd:Option Addr)(j:Nat)(be:Int→Heap→Prop)(k:Int→Heap→Nat)(d:Int)(a:Heap):Prop:=
 IF (decide (d < (j:Int))) (
 ((0:Int)≤d∧d < (j:Int))∧∃a5 a6:Nat,(bd=some ⟨a5,a6,none⟩)∧
 ∃f,q00 a a5 (a6+d.toNat)=some (.pointer f)∧
 NN f (
 ST a (adrB f) (adrO f) [I64 0] fun a8=>
 be (i64.wrap (d+1)) a8∧k (i64.wrap (d+1)) a8 < k d a)) (
 ∃m,q00 a c 1=some (I64 m)∧
 ∃n,q00 a c 2=some (I64 n)∧
 ∃o,q00 a c 3=some (I64 o)∧
 ∃p,q00 a c 4=some (I64 p)∧
 ∃q,q00 a c 5=some (I64 q)∧
 ∃r,q00 a c 6=some (I64 r)∧
 AL a [I64 0,I64 0,I64 0,I64 0,I64 0,I64 0] 180 fun a9 bh=>
 ST bh a9 0 [I64 m,I64 n,I64 o,I64 p,I64 q,I64 r] fun b=>
 ∃s t u v w x,q01 b a9 0 [I64 s,I64 t,I64 u,I64 v,I64 w,I64 x]∧
 ∃g:Bool,q7d Tryz.prog .neq 180 (.agg #[I64 s,I64 t,I64 u,I64 v,I64 w,I64 x]) (.agg #[I64 0,I64 0,I64 0,I64 0,I64 0,I64 0]) g∧
 ∃y z aa ab,((g=false)→q01 b c 7 [I64 y,I64 z,I64 aa,I64 ab])∧
 ∃a7:Bool,((g=false)→q7d Tryz.prog .neq 43 (.agg #[I64 y,I64 z,I64 aa,I64 ab]) (.agg #[I64 0,I64 0,I64 0,I64 0]) a7)∧
 IF (g || a7) (
 K (.bool false) b) (
 ∃ac,q00 b e 0=some (I64 ac)∧
 ∀i:Heap→Prop,(∀ad,q0s.r6 r1 r2 r3 r4 r5 K e ad→i ad)→
 IF (decide (ac=4)) (
 ∃ae,q00 b e 4=some (I64 ae)∧
 ∃af ag ah,q00 b e 11=some (.slice af ag ah)∧
 AL b [I64 0,I64 0,I64 0,I64 0,I64 0,I64 0,I64 0,I64 0,I64 0,I64 0,.slice none 0 0,(.string (⟨#[]⟩:ByteArray)),.slice none 0 0,.slice none 0 0] 104 fun ba bi=>
 ST bi ba 0 [I64 5,I64 0,I64 0,I64 0,I64 0,I64 0,I64 0,I64 ae,I64 0,I64 0,.slice af ag ah,(.string (⟨#[]⟩:ByteArray)),.slice none 0 0,.slice none 0 0] fun bb=>
 ∃ai aj ak al am an ao ap aq ar au av aw ax ay az a0 a1 a2 a3,q01 bb ba 0 [I64 ai,I64 aj,I64 ak,I64 al,I64 am,I64 an,I64 ao,I64 ap,I64 aq,I64 ar,.slice au av aw,.string ax,.slice ay az a0,.slice a1 a2 a3]∧
 CF 96 #[.agg #[I64 ai,I64 aj,I64 ak,I64 al,I64 am,I64 an,I64 ao,I64 ap,I64 aq,I64 ar,.slice au av aw,.string ax,.slice ay az a0,.slice a1 a2 a3]] bb fun bj bc=>∃a4,bj=(.bool a4)∧
 IF (!a4) (
 K (.bool false) bc) (
 i bc)) (
 ∃bf l bg,q00 b e 11=some (.slice bf l bg)∧
 IF (decide (0 < (l:Int))) (
 K (.bool false) b) (
 i b))))
def q0s.code (y r1 r2 r3 r4 r5 r6 r7 z aa ab:Int)(ac:Option Addr)(ad ae:Nat)(H:Heap)(K:KT):Prop:=
 AL H [I64 y,I64 r1,I64 r2,I64 r3,I64 r4,I64 r5,I64 r6,I64 r7,I64 z,I64 aa,I64 ab,.slice ac ad ae] 46 fun b a=>
 ∃d,q00 a b 0=some (I64 d)∧
 ∃f,(((decide (d < 1))=false)→q00 a b 0=some (I64 f))∧
 IF ((decide (d < 1)) || (decide (7 < f))) (
 K (.bool false) a) (
 ∃c0 g i j k l m n o p q r s t,q01 a b 0 [I64 c0,I64 g,I64 i,I64 j,I64 k,I64 l,I64 m,I64 n,I64 o,I64 p,I64 q,.slice r s t]∧
 AL a [I64 0,I64 0,I64 0,I64 0,I64 0,I64 0,I64 0,I64 0,I64 0,I64 0,I64 0,.slice none 0 0] 46 fun e ah=>
 ST ah e 0 [I64 c0,I64 g,I64 i,I64 j,I64 k,I64 l,I64 m,I64 n,I64 o,I64 p,I64 q,.slice r s t] fun ai=>
 CF 93 #[PA e 0] ai fun aj ak=>∃u v ag,aj=(.slice u v ag)∧
 ∃(c:Int→Heap→Prop) (af:Int→Heap→Nat),c 0 ak∧
 ∀w x,c w x→q0s.l7 r1 r2 r3 r4 r5 r6 K b e u v c af w x)
theorem q0s.call {a b c d e f g i j k l m n o H K:_}(hK:q0s.code a b c d e f g i j k l m n o H K):CF 34 ⟨[.agg #[I64 a,I64 b,I64 c,I64 d,I64 e,I64 f,I64 g,I64 i,I64 j,I64 k,I64 l,.slice m n o]]⟩ H K:=
 cE Tryz.func34 (.r (.seq (.r (.cond (.r .no) .no)) (.r (.seq (.r (.blk (.loop [(21,.one (.int .i64))] (.r (.seq (.cond .no .no) (.seq (.blk (.r .reg)) .reg)))))) (.r (.seq (.r (.cond (.r .no) .no)) (.seq (.r (.condJ [] (.r (.r (.cond (.r .no) .no))) (.r (.cond (.r .no) .no)))) (.r (.seq (.r (.blk (.r (.condJ [(8,.one (.int .i64)),(9,.one (.int .i64))] .reg (.seq (.r (.condJ [(70,.one (.bool))] .no (.r (.condJ [(70,.one (.bool))] .no .reg)))) (.condJ [(8,.one (.int .i64))] .reg .no)))))) (.seq (.regJ [(2,.one (.bool))]) .no)))))))))) hK
def q4a.l1 (K:KT)(af:Option Addr)(j:Nat)(ag:(Option Addr)→Nat→Nat→Int→Heap→Prop)(k:(Option Addr)→Nat→Nat→Int→Heap→Nat)(c:Option Addr)(d e:Nat)(a:Int)(b:Heap):Prop:=
 IF (decide (a < (j:Int))) (
 ((0:Int)≤a∧a < (j:Int))∧∃aa ab:Nat,(af=some ⟨aa,ab,none⟩)∧
 ∃l m n o p q,q01 b aa (ab+a.toNat*4) [I64 l,I64 m,.string n,.slice o p q]∧
 AL b [I64 0,I64 0,(.string (⟨#[]⟩:ByteArray)),.slice none 0 0] 95 fun ac ah=>
 ST ah ac 0 [I64 l,I64 m,.string n,.slice o p q] fun ad=>
 ∃r s t u v w,q01 ad ac 0 [I64 r,I64 s,.string t,.slice u v w]∧
 CF 95 #[.agg #[I64 r,I64 s,.string t,.slice u v w]] ad fun ai aj=>∃x y z,ai=(.slice x y z)∧
 RunW Tryz.prog (Builtin.append_ #[24,24] 24 #[.slice c d e,.slice x y z]) aj fun ak ae=>
 ∃f g i,ak=(.slice f g i)∧
 ag f g i (i64.wrap (a+1)) ae∧k f g i (i64.wrap (a+1)) ae < k c d e a b) (
 K (.slice c d e) b)
def q4a.r2 (K:KT)(k:Nat)(l:Option Addr)(m n:Nat)(b:Heap):Prop:=
 ∃g i p,q00 b k 11=some (.slice g i p)∧
 ∃(a:(Option Addr)→Nat→Nat→Int→Heap→Prop) (o:(Option Addr)→Nat→Nat→Int→Heap→Nat),a l m n 0 b∧
 ∀(c:Option Addr) (d:Nat) (e:Nat) (f:Int),∀j:Heap,a c d e f j→q4a.l1 K g i a o c d e f j
def q4a.l3 (r2:Int)(K:KT)(g:Nat)(ah:Option Addr)(m:Nat)(ai:(Option Addr)→Nat→Nat→Int→Heap→Prop)(n:(Option Addr)→Nat→Nat→Int→Heap→Nat)(c:Option Addr)(d e:Nat)(b:Int)(a:Heap):Prop:=
 IF (decide (b < (m:Int))) (
 ((0:Int)≤b∧b < (m:Int))∧∃ad ae:Nat,(ah=some ⟨ad,ae,none⟩)∧
 ∃f,q00 a ad (ae+b.toNat)=some (.pointer f)∧
 NN f (
 ∃s,q00 a (adrB f) (adrO f)=some (I64 s)∧
 AL a [I64 s] 2 fun al am=>
 CF 57 #[.slice (some ⟨al,0,none⟩) 1 1] am fun an ao=>∃t u v,an=(.slice t u v)∧
 RunW Tryz.prog (Builtin.append_ #[24,24] 24 #[.slice c d e,.slice t u v]) ao fun ap ag=>
 ∃i j k,ap=(.slice i j k)∧
 ai i j k (i64.wrap (b+1)) ag∧n i j k (i64.wrap (b+1)) ag < n c d e b a)) (
 ∃w,q00 a g 0=some (I64 w)∧
 ∀l:(Option Addr)→Nat→Nat→Heap→Prop,(∀(o:Option Addr) (p:Nat) (q:Nat),∀af:Heap,q4a.r2 K g o p q af→l o p q af)→
 IF (decide (w=4)) (
 ∃aj r ak,q00 a g 11=some (.slice aj r ak)∧
 AL a [(I64 (r:Int))] 2 fun aq ar=>
 CF 57 #[.slice (some ⟨aq,0,none⟩) 1 1] ar fun au av=>∃x y z,au=(.slice x y z)∧
 RunW Tryz.prog (Builtin.append_ #[24,24] 24 #[.slice c d e,.slice x y z]) av fun aw ax=>
 ∃aa ab ac,aw=(.slice aa ab ac)∧
 l aa ab ac ax) (
 l c d e a))
def q4a.code (ae r1 r2 r3 r4 r5 r6 r7 af ag ah:Int)(ai:Option Addr)(aj ak:Nat)(H:Heap)(K:KT):Prop:=
 AL H [I64 ae,I64 r1,I64 r2,I64 r3,I64 r4,I64 r5,I64 r6,I64 r7,I64 af,I64 ag,I64 ah,.slice ai aj ak] 46 fun a ad=>
 ∃c0 i j k l m n o p q r s t u,q01 ad a 0 [I64 c0,I64 i,I64 j,I64 k,I64 l,I64 m,I64 n,I64 o,I64 p,I64 q,I64 r,.slice s t u]∧
 CF 34 #[.agg #[I64 c0,I64 i,I64 j,I64 k,I64 l,I64 m,I64 n,I64 o,I64 p,I64 q,I64 r,.slice s t u]] ad fun an c=>∃v,an=(.bool v)∧
 IF (!v) (
 K (.slice none 0 0) c) (
 ∃w,q00 c a 0=some (I64 w)∧
 AL c [I64 w] 2 fun ao ap=>
 CF 57 #[.slice (some ⟨ao,0,none⟩) 1 1] ap fun aq ar=>∃x y z,aq=(.slice x y z)∧
 CF 93 #[PA a 0] ar fun au av=>∃aa ab am,au=(.slice aa ab am)∧
 ∃(b:(Option Addr)→Nat→Nat→Int→Heap→Prop) (al:(Option Addr)→Nat→Nat→Int→Heap→Nat),b x y z 0 av∧
 ∀(d:Option Addr) (e:Nat) (f:Nat) (g:Int),∀ac:Heap,b d e f g ac→q4a.l3 r2 K a aa ab b al d e f g ac)
theorem q4a.call {a b c d e f g i j k l m n o H K:_}(hK:q4a.code a b c d e f g i j k l m n o H K):CF 33 ⟨[.agg #[I64 a,I64 b,I64 c,I64 d,I64 e,I64 f,I64 g,I64 i,I64 j,I64 k,I64 l,.slice m n o]]⟩ H K:=
 cE Tryz.func33 (.r (.seq (.r (.cond (.r .no) .no)) (.r (.seq (.r (.blk (.loop [(3,.one (.slice)),(17,.one (.int .i64))] (.r (.seq (.cond .no .no) (.seq (.blk (.r .reg)) .reg)))))) (.seq (.r (.condJ [(3,.one (.slice))] .reg .no)) (.seq (.r (.blk (.loop [(3,.one (.slice)),(42,.one (.int .i64))] (.r (.seq (.cond .no .no) (.seq (.blk (.r .reg)) .reg)))))) (.r .no))))))) hK
def q13.r1 (K:KT)(a b:Nat)(d:Heap):Prop:=
 ∃e f g i j k l m n o p q r s,q01 d a 0 [I64 e,I64 f,I64 g,I64 i,I64 j,I64 k,I64 l,I64 m,I64 n,I64 o,I64 p,.slice q r s]∧
 ST d a 0 [I64 e,I64 f,I64 g,I64 i,I64 j,I64 k,I64 l,I64 m,I64 n,I64 o,I64 p,.slice q r s] fun ai=>
 ST ai b 0 [I64 0] fun aj=>
 memN 92 X.calls=true∧
 DefQ Tryz.prog 92 [PA b 0,PA a 0] .returning aj fun ak c=>ak=.returning∧
 ∃t u v w x y z aa ab ac ad ae af ag,q01 c a 0 [I64 t,I64 u,I64 v,I64 w,I64 x,I64 y,I64 z,I64 aa,I64 ab,I64 ac,I64 ad,.slice ae af ag]∧
 ∃ah,q00 c b 0=some (I64 ah)∧
 K (.tuple #[.agg #[I64 t,I64 u,I64 v,I64 w,I64 x,I64 y,I64 z,I64 aa,I64 ab,I64 ac,I64 ad,.slice ae af ag],I64 ah]) c
def q13.r2 (K:KT)(a b a5:Nat)(r1:Int)(e:Heap):Prop:=
 ∃f,q00 e a5 0=some (.pointer f)∧
 CF 50 #[.pointer f] e fun a6 a7=>∃r3,a6=(I64 r3)∧
 CP 45 #[I64 r3] a7 (fun a8 a2=>a8=(.tuple #[])∧
 ∃c0 g i j k l m n o p q r s t,q01 a2 a 0 [I64 c0,I64 g,I64 i,I64 j,I64 k,I64 l,I64 m,I64 n,I64 o,I64 p,I64 q,.slice r s t]∧
 CF 34 #[.agg #[I64 c0,I64 g,I64 i,I64 j,I64 k,I64 l,I64 m,I64 n,I64 o,I64 p,I64 q,.slice r s t]] a2 fun a9 a3=>∃r4,a9=(.bool r4)∧
 ∀a1:Heap→Prop,(∀u,q13.r1 K a b u→a1 u)→
 IF (!r4) (
 memN 92 X.calls=true∧
 DefQ Tryz.prog 92 [PA b 0,PA a 0] (panM (.iface 28 (I64 10)) false) a3 fun ba c=>ba=panM (.iface 28 (I64 10)) true∧
 ∃v w x y z aa ab ac ad ae af ag ah ai,q01 c a 0 [I64 v,I64 w,I64 x,I64 y,I64 z,I64 aa,I64 ab,I64 ac,I64 ad,I64 ae,I64 af,.slice ag ah ai]∧
 ∃aj,q00 c b 0=some (I64 aj)∧
 K (.tuple #[.agg #[I64 v,I64 w,I64 x,I64 y,I64 z,I64 aa,I64 ab,I64 ac,I64 ad,I64 ae,I64 af,.slice ag ah ai],I64 aj]) c) (
 a1 a3)) (fun a4 bb=>
 memN 92 X.calls=true∧
 DefQ Tryz.prog 92 [PA b 0,PA a 0] (panM a4 false) bb fun bc d=>bc=panM a4 true∧
 ∃ak al am an ao ap aq ar au av aw ax ay az,q01 d a 0 [I64 ak,I64 al,I64 am,I64 an,I64 ao,I64 ap,I64 aq,I64 ar,I64 au,I64 av,I64 aw,.slice ax ay az]∧
 ∃a0,q00 d b 0=some (I64 a0)∧
 K (.tuple #[.agg #[I64 ak,I64 al,I64 am,I64 an,I64 ao,I64 ap,I64 aq,I64 ar,I64 au,I64 av,I64 aw,.slice ax ay az],I64 a0]) d)
def q13.l3 (K:KT)(a i an:Nat)(ao:Heap→Prop)(r5:Int)(ap:Int→Heap→Prop)(j:Int→Heap→Nat)(c:Int)(b:Heap):Prop:=
 IF (decide (c < r5)) (
 ∃d e f,q00 b a 11=some (.slice d e f)∧
 ∃k,q01 b an 0 [.pointer k]∧
 CP 94 #[.agg #[.pointer k]] b (fun aq aj=>∃l m n o p q,aq=(.agg #[I64 l,I64 m,.string n,.slice o p q])∧
 q00 aj a 11=some (.slice d e f)∧
 AL aj [I64 l,I64 m,.string n,.slice o p q] 95 fun ar ak=>
 q00 ak a 11=some (.slice d e f)∧
 RunW Tryz.prog (Builtin.append_ #[44,44] 44 #[.slice d e f,.slice (some ⟨ar,0,none⟩) 1 1]) ak fun au av=>
 ∃r s t,au=(.slice r s t)∧
 ST av a 11 [.slice r s t] fun al=>
 ap (i64.wrap (c+1)) al∧j (i64.wrap (c+1)) al < j c b) (fun am aw=>
 memN 92 X.calls=true∧
 DefQ Tryz.prog 92 [PA i 0,PA a 0] (panM am false) aw fun ax g=>ax=panM am true∧
 ∃u v w x y z aa ab ac ad ae af ag ah,q01 g a 0 [I64 u,I64 v,I64 w,I64 x,I64 y,I64 z,I64 aa,I64 ab,I64 ac,I64 ad,I64 ae,.slice af ag ah]∧
 ∃ai,q00 g i 0=some (I64 ai)∧
 K (.tuple #[.agg #[I64 u,I64 v,I64 w,I64 x,I64 y,I64 z,I64 aa,I64 ab,I64 ac,I64 ad,I64 ae,.slice af ag ah],I64 ai]) g)) (
 ao b)
def q13.l4 (K:KT)(b d e:Nat)(r1:Int)(a4:Option Addr)(l:Nat)(a5:Int→Heap→Prop)(m:Int→Heap→Nat)(c:Int)(a:Heap):Prop:=
 IF (decide (c < (l:Int))) (
 ((0:Int)≤c∧c < (l:Int))∧∃az a0:Nat,(a4=some ⟨az,a0,none⟩)∧
 ∃f,q00 a az (a0+c.toNat)=some (.pointer f)∧
 ∃n,q01 a e 0 [.pointer n]∧
 CP 43 #[.agg #[.pointer n]] a (fun a7 a8=>∃r2,a7=(I64 r2)∧
 NN f (
 ST a8 (adrB f) (adrO f) [I64 r2] fun a1=>
 a5 (i64.wrap (c+1)) a1∧m (i64.wrap (c+1)) a1 < m c a)) (fun a2 a9=>
 memN 92 X.calls=true∧
 DefQ Tryz.prog 92 [PA d 0,PA b 0] (panM a2 false) a9 fun ba j=>ba=panM a2 true∧
 ∃o p q r s t u v w x y z aa ab,q01 j b 0 [I64 o,I64 p,I64 q,I64 r,I64 s,I64 t,I64 u,I64 v,I64 w,I64 x,I64 y,.slice z aa ab]∧
 ∃ac,q00 j d 0=some (I64 ac)∧
 K (.tuple #[.agg #[I64 o,I64 p,I64 q,I64 r,I64 s,I64 t,I64 u,I64 v,I64 w,I64 x,I64 y,.slice z aa ab],I64 ac]) j)) (
 ∃ad,q00 a b 0=some (I64 ad)∧
 ∀i:Heap→Prop,(∀ae,q13.r2 K b d e r1 ae→i ae)→
 IF (decide (ad=4)) (
 ∃af,q01 a e 0 [.pointer af]∧
 CP 42 #[.agg #[.pointer af],I64 64] a (fun bb bc=>∃r5,bb=(I64 r5)∧
 ∃(g:Int→Heap→Prop) (a6:Int→Heap→Nat),g 0 bc∧
 ∀ag ah,g ag ah→q13.l3 K b d e i r5 g a6 ag ah) (fun a3 bd=>
 memN 92 X.calls=true∧
 DefQ Tryz.prog 92 [PA d 0,PA b 0] (panM a3 false) bd fun be k=>be=panM a3 true∧
 ∃ai aj ak al am an ao ap aq ar au av aw ax,q01 k b 0 [I64 ai,I64 aj,I64 ak,I64 al,I64 am,I64 an,I64 ao,I64 ap,I64 aq,I64 ar,I64 au,.slice av aw ax]∧
 ∃ay,q00 k d 0=some (I64 ay)∧
 K (.tuple #[.agg #[I64 ai,I64 aj,I64 ak,I64 al,I64 am,I64 an,I64 ao,I64 ap,I64 aq,I64 ar,I64 au,.slice av aw ax],I64 ay]) k)) (
 i a))
def q13.r5 (K:KT)(a g i:Nat)(r1:Int)(j:Heap):Prop:=
 ST j a 0 [I64 (i64.wrap r1)] fun m=>
 CF 93 #[PA a 0] m fun n o=>∃c d l,n=(.slice c d l)∧
 ∃(b:Int→Heap→Prop) (k:Int→Heap→Nat),b 0 o∧
 ∀e f,b e f→q13.l4 K a g i r1 c d b k e f
def q13.code (ar:Option Addr)(au av:Nat)(H:Heap)(K:KT):Prop:=
 AL H [I64 0,I64 0,I64 0,I64 0,I64 0,I64 0,I64 0,I64 0,I64 0,I64 0,I64 0,.slice none 0 0] 46 fun a aw=>
 AL aw [I64 0] 28 fun b ax=>
 CF 39 #[.slice ar au av] ax fun ay az=>∃f,ay=(.pointer f)∧
 AL az [.pointer none] 109 fun c a0=>
 ST a0 c 0 [.pointer f] fun ao=>
 ∃g,q01 ao c 0 [.pointer g]∧
 CP 49 #[.agg #[.pointer g]] ao (fun a1 ap=>∃r1,a1=(.int .u64 r1)∧
 ∀an:Heap→Prop,(∀i,q13.r5 K a b c r1 i→an i)→
 IF ((decide (r1 < 1)) || (decide (7 < r1))) (
 memN 92 X.calls=true∧
 DefQ Tryz.prog 92 [PA b 0,PA a 0] (panM (.iface 28 (I64 16)) false) ap fun a2 d=>a2=panM (.iface 28 (I64 16)) true∧
 ∃j k l m n o p q r s t u v w,q01 d a 0 [I64 j,I64 k,I64 l,I64 m,I64 n,I64 o,I64 p,I64 q,I64 r,I64 s,I64 t,.slice u v w]∧
 ∃x,q00 d b 0=some (I64 x)∧
 K (.tuple #[.agg #[I64 j,I64 k,I64 l,I64 m,I64 n,I64 o,I64 p,I64 q,I64 r,I64 s,I64 t,.slice u v w],I64 x]) d) (
 an ap)) (fun aq a3=>
 memN 92 X.calls=true∧
 DefQ Tryz.prog 92 [PA b 0,PA a 0] (panM aq false) a3 fun a4 e=>a4=panM aq true∧
 ∃y z aa ab ac ad ae af ag ah ai aj ak al,q01 e a 0 [I64 y,I64 z,I64 aa,I64 ab,I64 ac,I64 ad,I64 ae,I64 af,I64 ag,I64 ah,I64 ai,.slice aj ak al]∧
 ∃am,q00 e b 0=some (I64 am)∧
 K (.tuple #[.agg #[I64 y,I64 z,I64 aa,I64 ab,I64 ac,I64 ad,I64 ae,I64 af,I64 ag,I64 ah,I64 ai,.slice aj ak al],I64 am]) e)
theorem q13.call {a b c H K:_}(hK:q13.code a b c H K):CF 32 ⟨[.slice a b c]⟩ H K:=
 cE Tryz.func32 (.r (.r (.r (.r (.seq (.r (.condJ [] .reg .no)) (.r (.seq (.r (.blk (.loop [(26,.one (.int .i64))] (.r (.seq (.cond .no .no) (.seq (.blk (.r .reg)) .reg)))))) (.seq (.r (.condJ [] (.r (.blk (.loop [(40,.one (.int .i64))] (.r (.seq (.cond .no .no) (.seq (.blk .reg) .reg)))))) .no)) (.r (.seq (.r (.condJ [] .reg .no)) (.r .no))))))))))) hK
def St_At.code (d e:Nat)(f q:Int)(H:Heap)(K:KT):Prop:=
 AL H [I64 0,I64 0] 53 fun a b=>
 ∃g,q00 b d (e+18)=some (.map g)∧
 ∃c,q09 Tryz.prog (Instr.lookup 113 (.map g) (I64 f) false) b (.pointer c)∧
 IF c.isNone (
 ST b a 0 [I64 0,I64 0] fun o=>
 ∃i j,q01 o a 0 [I64 i,I64 j]∧
 K (.tuple #[.agg #[I64 i,I64 j],I64 19]) o) (
 CF 91 #[PA d e,I64 f,.pointer c,I64 q] b fun r s=>∃k r1 l,r=(.tuple #[.agg #[I64 k,I64 r1],I64 l])∧
 ST s a 0 [I64 k,I64 r1] fun p=>
 ∃m n,q01 p a 0 [I64 m,I64 n]∧
 K (.tuple #[.agg #[I64 m,I64 n],I64 l]) p)
theorem St_At.call {a b c d H K:_}(hK:St_At.code a b c d H K):CF 31 ⟨[PA a b,I64 c,I64 d]⟩ H K:=
 cE Tryz.func31 (.r (.r (.seq (.r (.cond (.r .no) .no)) (.r .no)))) hK
def qtv.code (b c:Nat)(H:Heap)(K:KT):Prop:=
 ∃a,q00 H b (c+11)=some (I64 a)∧
 K (I64 a) H
theorem qtv.call {a b H K:_}(hK:qtv.code a b H K):CF 28 ⟨[PA a b]⟩ H K:=
 cE Tryz.func28 (.r (.r .no)) hK
def qtw.code (g i:Nat)(H:Heap)(K:KT):Prop:=
 ∃a b c,q00 H g (i+19)=some (.slice a b c)∧
 CF 85 #[.slice a b c] H fun j k=>∃d e f,j=(.slice d e f)∧
 K (.slice d e f) k
theorem qtw.call {a b H K:_}(hK:qtw.code a b H K):CF 27 ⟨[PA a b]⟩ H K:=
 cE Tryz.func27 (.r (.r .no)) hK
def qih.code (p q:Nat)(r:Int)(H:Heap)(K:KT):Prop:=
 AL H [I64 0,I64 0,I64 0,I64 0,.bool false,.bool false,.bool false,I64 0,I64 0,I64 0,I64 0] 82 fun l a4=>
 ∃w,q00 a4 p (q+15)=some (.pointer w)∧
 CF 80 #[.pointer w,I64 r] a4 fun bb bc=>∃x r1 r2 y,bb=(.tuple #[.agg #[I64 x,I64 r1,I64 r2],.bool y])∧
 AL bc [I64 0,I64 0,I64 0] 78 fun m bd=>
 ST bd m 0 [I64 x,I64 r1,I64 r2] fun t=>
 IF (!y) (
 ST t l 0 [I64 0,I64 0,I64 0,I64 0,.bool false,.bool false,.bool false,I64 0,I64 0,I64 0,I64 0] fun a5=>
 ∃z aa ab ac ad ae af ag ah ai aj,q01 a5 l 0 [I64 z,I64 aa,I64 ab,I64 ac,.bool ad,.bool ae,.bool af,I64 ag,I64 ah,I64 ai,I64 aj]∧
 K (.tuple #[.agg #[I64 z,I64 aa,I64 ab,I64 ac,.bool ad,.bool ae,.bool af,I64 ag,I64 ah,I64 ai,I64 aj],.bool false]) a5) (
 ∃ak,q00 t p (q+16)=some (.pointer ak)∧
 CF 81 #[.pointer ak,I64 r] t fun be bf=>∃al am an r3 r4,be=(.tuple #[.agg #[I64 al,.bool am,.bool an,.bool r3],.bool r4])∧
 AL bf [I64 0,.bool false,.bool false,.bool false] 80 fun n bg=>
 ST bg n 0 [I64 al,.bool am,.bool an,.bool r3] fun b=>
 ∃ao,q00 b p (q+18)=some (.map ao)∧
 ∃a,q09 Tryz.prog (Instr.lookup 113 (.map ao) (I64 r) false) b (.pointer a)∧
 ∃c0 d e,q01 b m 0 [I64 c0,I64 d,I64 e]∧
 ∃f g i j,q01 b n 0 [I64 f,.bool g,.bool i,.bool j]∧
 NN a (
 ∃k,q00 b (adrB a) ((adrO a)+2)=some (I64 k)∧
 NN a (
 ∃ap,q00 b (adrB a) ((adrO a)+1)=some (.pointer ap)∧
 ∃r5,CQ 82 #[.pointer ap] b (I64 r5)∧
 NN a (
 ∃aq,q00 b (adrB a) ((adrO a)+1)=some (.pointer aq)∧
 NN a (
 ∃s,q00 b (adrB a) (adrO a)=some (.pointer s)∧
 CF 83 #[.pointer aq] b fun bh c=>∃a7 u a8,bh=(.slice a7 u a8)∧
 q00 c (adrB a) (adrO a)=some (.pointer s)∧
 q00 c (adrB a) ((adrO a)+2)=some (I64 k)∧
 q01 c n 0 [I64 f,.bool g,.bool i,.bool j]∧
 q01 c m 0 [I64 c0,I64 d,I64 e]∧
 CF 84 #[.pointer s] c fun bi o=>∃a9 v ba,bi=(.slice a9 v ba)∧
 q00 o (adrB a) ((adrO a)+2)=some (I64 k)∧
 q01 o n 0 [I64 f,.bool g,.bool i,.bool j]∧
 q01 o m 0 [I64 c0,I64 d,I64 e]∧
 ST o l 0 [I64 c0,I64 d,I64 e,I64 f,.bool g,.bool i,.bool j,I64 k,I64 r5,(I64 (u:Int)),(I64 (v:Int))] fun a6=>
 ∃ar au av aw ax ay az a0 a1 a2 a3,q01 a6 l 0 [I64 ar,I64 au,I64 av,I64 aw,.bool ax,.bool ay,.bool az,I64 a0,I64 a1,I64 a2,I64 a3]∧
 K (.tuple #[.agg #[I64 ar,I64 au,I64 av,I64 aw,.bool ax,.bool ay,.bool az,I64 a0,I64 a1,I64 a2,I64 a3],.bool true]) a6)))))
theorem qih.call {a b c H K:_}(hK:qih.code a b c H K):CF 26 ⟨[PA a b,I64 c]⟩ H K:=
 cE Tryz.func26 (.r (.r (.seq (.r (.cond (.r .no) .no)) (.r (.r (.r .no)))))) hK
def z1z.code (b c:Nat)(H:Heap)(K:KT):Prop:=
 ∃a,q00 H b (c+9)=some (I64 a)∧
 K (I64 a) H
theorem z1z.call {a b H K:_}(hK:z1z.code a b H K):CF 24 ⟨[PA a b]⟩ H K:=
 cE Tryz.func24 (.r (.r .no)) hK
def qos.code (c d:Nat)(H:Heap)(K:KT):Prop:=
 ∃a,q00 H c (d+16)=some (.pointer a)∧
 ∃b,CQ 60 #[.pointer a] H (I64 b)∧
 K (I64 b) H
theorem qos.call {a b H K:_}(hK:qos.code a b H K):CF 23 ⟨[PA a b]⟩ H K:=
 cE Tryz.func23 (.r (.r .no)) hK
def qii.code (d e:Nat)(H:Heap)(K:KT):Prop:=
 ∃a,q00 H d (e+17)=some (.pointer a)∧
 CF 64 #[.pointer a] H fun f g=>∃b c,f=(.func (.func b) #[] ⟨c⟩)∧
 K (.func (.func b) #[] ⟨c⟩) g
theorem qii.call {a b H K:_}(hK:qii.code a b H K):CF 21 ⟨[PA a b]⟩ H K:=
 cE Tryz.func21 (.r (.r .no)) hK
def q1z.r1 (K:KT)(a:Heap):Prop:=
 K (.tuple #[.slice none 0 0,I64 0]) a
def q1z.r2 (a:Heap→Prop)(b:Heap):Prop:=
 a b
def q1z.r3 (a:Heap→Prop)(b:Heap):Prop:=
 a b
def q1z.r4 (a:Heap→Prop)(b:Heap):Prop:=
 a b
def q1z.r5 (a:Heap→Prop)(b:Heap):Prop:=
 a b
def q1z.code (b c:Nat)(c8 r1 r2 r3 r4 r5 r6 r7 c9 da db:Int)(dc:Option Addr)(dd de:Nat)(H:Heap)(K:KT):Prop:=
 AL H [I64 c8,I64 r1,I64 r2,I64 r3,I64 r4,I64 r5,I64 r6,I64 r7,I64 c9,I64 da,I64 db,.slice dc dd de] 46 fun d c5=>
 ∃c0 p q r s t u v w x y z aa ab,q01 c5 d 0 [I64 c0,I64 p,I64 q,I64 r,I64 s,I64 t,I64 u,I64 v,I64 w,I64 x,I64 y,.slice z aa ab]∧
 CF 34 #[.agg #[I64 c0,I64 p,I64 q,I64 r,I64 s,I64 t,I64 u,I64 v,I64 w,I64 x,I64 y,.slice z aa ab]] c5 fun dh o=>∃ac,dh=(.bool ac)∧
 IF (!ac) (
 K (.tuple #[.slice none 0 0,I64 10]) o) (
 ∃ad ae af ag ah ai aj ak al am an ao ap aq,q01 o d 0 [I64 ad,I64 ae,I64 af,I64 ag,I64 ah,I64 ai,I64 aj,I64 ak,I64 al,I64 am,I64 an,.slice ao ap aq]∧
 CF 66 #[PA b c,.agg #[I64 ad,I64 ae,I64 af,I64 ag,I64 ah,I64 ai,I64 aj,I64 ak,I64 al,I64 am,I64 an,.slice ao ap aq]] o fun di a=>∃i,di=(I64 i)∧
 IF (!decide (i=0)) (
 K (.tuple #[.slice none 0 0,I64 i]) a) (
 ∃e,q00 a d 0=some (I64 e)∧
 ∀j:Heap→Prop,(∀ar,q1z.r1 K ar→j ar)→
 IF (decide (e=1)) (
 ∃au,q00 a b (c+10)=some (I64 au)∧
 ST a b (c+10) [I64 (i64.wrap (au+1))] fun dj=>
 j dj) (
 IF (decide (e=2)) (
 ∃av aw ax ay az a0 a1 a2 a3 a4 a5 a6 a7 a8,q01 a d 0 [I64 av,I64 aw,I64 ax,I64 ay,I64 az,I64 a0,I64 a1,I64 a2,I64 a3,I64 a4,I64 a5,.slice a6 a7 a8]∧
 CF 67 #[PA b c,.agg #[I64 av,I64 aw,I64 ax,I64 ay,I64 az,I64 a0,I64 a1,I64 a2,I64 a3,I64 a4,I64 a5,.slice a6 a7 a8]] a fun dk dl=>∃a9 ba bb bc,dk=(.tuple #[.slice a9 ba bb,I64 bc])∧
 K (.tuple #[.slice a9 ba bb,I64 bc]) dl) (
 ∀k:Heap→Prop,(∀bd,q1z.r2 j bd→k bd)→
 IF (decide (e=3)) (
 ∃be,q00 a b (c+18)=some (.map be)∧
 ∃bf,q00 a d 1=some (I64 bf)∧
 ∃f,q09 Tryz.prog (Instr.lookup 113 (.map be) (I64 bf) false) a (.pointer f)∧
 NN f (
 ∃bg,q00 a (adrB f) (adrO f)=some (.pointer bg)∧
 ∃bh bi bj bk,q01 a d 7 [I64 bh,I64 bi,I64 bj,I64 bk]∧
 CF 68 #[.pointer bg,.agg #[I64 bh,I64 bi,I64 bj,I64 bk]] a fun dm g=>∃df,dm=(I64 df)∧
 ∃bl,q00 g b (c+16)=some (.pointer bl)∧
 ∃bm,q00 g d 1=some (I64 bm)∧
 NN f (
 ∃bn,q00 g (adrB f) (adrO f)=some (.pointer bn)∧
 ∃bo,CQ 70 #[.pointer bn] g (.bool bo)∧
 CF 69 #[.pointer bl,I64 bm,.bool bo] g fun dp c6=>∃dg,dp=(I64 dg)∧
 ∃bp,q00 c6 d 10=some (I64 bp)∧
 ST c6 b (c+9) [I64 bp] fun dq=>
 k dq))) (
 IF (decide (e=4)) (
 ∃bq br bs bt bu bv bw bx bz b0 b1 b2 b3 b4,q01 a d 0 [I64 bq,I64 br,I64 bs,I64 bt,I64 bu,I64 bv,I64 bw,I64 bx,I64 bz,I64 b0,I64 b1,.slice b2 b3 b4]∧
 CF 71 #[PA b c,.agg #[I64 bq,I64 br,I64 bs,I64 bt,I64 bu,I64 bv,I64 bw,I64 bx,I64 bz,I64 b0,I64 b1,.slice b2 b3 b4]] a fun dr ds=>∃b5 b6 b7,dr=(.slice b5 b6 b7)∧
 K (.tuple #[.slice b5 b6 b7,I64 0]) ds) (
 ∀l:Heap→Prop,(∀b8,q1z.r3 k b8→l b8)→
 IF (decide (e=5)) (
 ∃b9 ca cb cc cd ce cf cg ch ci cj ck cl cm,q01 a d 0 [I64 b9,I64 ca,I64 cb,I64 cc,I64 cd,I64 ce,I64 cf,I64 cg,I64 ch,I64 ci,I64 cj,.slice ck cl cm]∧
 CF 72 #[PA b c,.agg #[I64 b9,I64 ca,I64 cb,I64 cc,I64 cd,I64 ce,I64 cf,I64 cg,I64 ch,I64 ci,I64 cj,.slice ck cl cm]] a fun dt du=>dt=(.tuple #[])∧
 l du) (
 IF (decide (e=6)) (
 ∃cn,q00 a d 6=some (I64 cn)∧
 CF 73 #[PA b c,I64 cn] a fun dv dw=>∃co cp cq,dv=(.slice co cp cq)∧
 K (.tuple #[.slice co cp cq,I64 0]) dw) (
 ∀m:Heap→Prop,(∀cr,q1z.r4 l cr→m cr)→
 IF (decide (e=7)) (
 ∃cs,q00 a d 4=some (I64 cs)∧
 ∃ct,q00 a b (c+11)=some (I64 ct)∧
 ∀n:Heap→Prop,(∀cu,q1z.r5 m cu→n cu)→
 IF (decide (ct < cs)) (
 ∃cv cw cx,q00 a b (c+19)=some (.slice cv cw cx)∧
 ∃cy,q00 a d 4=some (I64 cy)∧
 ∃cz,q00 a b (c+11)=some (I64 cz)∧
 CF 74 #[.slice cv cw cx,I64 0,I64 (i64.wrap (cy - cz))] a fun dx dz=>∃c1 c2 c3,dx=(.slice c1 c2 c3)∧
 ST dz b (c+19) [.slice c1 c2 c3] fun c7=>
 ∃c4,q00 c7 d 4=some (I64 c4)∧
 ST c7 b (c+11) [I64 c4] fun d0=>
 n d0) (
 n a)) (
 m a)))))))))
theorem q1z.call {a b c d e f g i j k l m n o p q H K:_}(hK:q1z.code a b c d e f g i j k l m n o p q H K):CF 17 ⟨[PA a b,.agg #[I64 c,I64 d,I64 e,I64 f,I64 g,I64 i,I64 j,I64 k,I64 l,I64 m,I64 n,.slice o p q]]⟩ H K:=
 cE Tryz.func17 (.r (.seq (.r (.cond (.r .no) .no)) (.seq (.r (.r (.cond (.r .no) .no))) (.seq (.r (.blk (.r (.condJ [] .reg (.r (.cond (.r .no) (.r (.condJ [] (.r (.r (.r .reg))) (.r (.cond (.r .no) (.r (.condJ [] .reg (.r (.cond (.r .no) (.r (.condJ [] (.r (.condJ [] (.r .reg) .no)) .no)))))))))))))))) (.r .no))))) hK
def qij.code (c0 am an ao ap aq ar au av:Int)(H:Heap)(K:KT):Prop:=
 AL H [I64 c0,I64 am,I64 an,I64 ao,I64 ap,I64 aq,I64 ar,I64 au,I64 av] 23 fun a ai=>
 ∃g i j k l m n o p,q01 ai a 0 [I64 g,I64 i,I64 j,I64 k,I64 l,I64 m,I64 n,I64 o,I64 p]∧
 CF 13 #[.agg #[I64 g,I64 i,I64 j,I64 k,I64 l,I64 m,I64 n,I64 o,I64 p]] ai fun ax c=>∃q,ax=(.bool q)∧
 IF (!q) (
 K (.tuple #[.pointer none,I64 11]) c) (
 ∃r s t u v w x y z,q01 c a 0 [I64 r,I64 s,I64 t,I64 u,I64 v,I64 w,I64 x,I64 y,I64 z]∧
 ∀(e:Nat) (f:Heap),e=c.size→f=c.push (.map #[] 0)→
 AL f [I64 r,I64 s,I64 t,I64 u,I64 v,I64 w,I64 x,I64 y,I64 z,I64 0,I64 0,I64 0,I64 0,I64 0,I64 0,.pointer none,.pointer none,.pointer none,.map (some e),.slice none 0 0] 115 fun b d=>
 ∃aa,q00 d a 0=some (I64 aa)∧
 ∃ab,q00 d a 1=some (I64 ab)∧
 ∃ac,q00 d a 2=some (I64 ac)∧
 CF 20 #[I64 aa,I64 ab,I64 ac] d fun ay az=>∃ad r1 r2 r3,ay=(.tuple #[.agg #[I64 ad,I64 r1,I64 r2],I64 r3])∧
 ST az b 12 [I64 ad,I64 r1,I64 r2] fun aj=>
 ∃ae,q00 aj a 6=some (I64 ae)∧
 CF 54 #[I64 ae] aj fun a0 a1=>∃r4 r5,a0=(.tuple #[.pointer r4,I64 r5])∧
 ST a1 b 15 [.pointer r4] fun ak=>
 ∃af,q00 ak a 3=some (I64 af)∧
 CF 52 #[I64 af] ak fun a2 a3=>∃r6 r7,a2=(.tuple #[.pointer r6,I64 r7])∧
 ST a3 b 16 [.pointer r6] fun al=>
 ∃ag,q00 al a 7=some (I64 ag)∧
 CF 55 #[I64 ag] al fun a4 a5=>∃ah aw,a4=(.tuple #[.pointer ah,I64 aw])∧
 ST a5 b 17 [.pointer ah] fun a6=>
 K (.tuple #[PA b 0,I64 0]) a6)
theorem qij.call {a b c d e f g i j H K:_}(hK:qij.code a b c d e f g i j H K):CF 16 ⟨[.agg #[I64 a,I64 b,I64 c,I64 d,I64 e,I64 f,I64 g,I64 i,I64 j]]⟩ H K:=
 cE Tryz.func16 (.r (.seq (.r (.cond (.r .no) .no)) (.r (.r (.r (.r (.r (.r .no)))))))) hK
def q31.y1 (ab d e:Nat)(a:Heap)(b:Loop)(ac:List Value)(j:Heap)(K_:Value→Heap→Prop):Prop:=
 ∃k l m n,ac=[I64 k,.agg #[I64 l,I64 m,I64 n]]∧
 j[a.size+1]?=some (.loop b)∧
 AL j [I64 0,I64 0,I64 0] 78 fun x ad=>
 ST ad x 0 [I64 l,I64 m,I64 n] fun y=>
 y[a.size+1]?=some (.loop b)∧
 ∀c,c=q0q y (a.size+1) { b with state:=.busy }→
 ∃f g i,q00 c d e=some (.slice f g i)∧
 ∃o,q00 c ab 0=some (.pointer o)∧
 ∃c0 p q,q01 c x 0 [I64 c0,I64 p,I64 q]∧
 CF 62 #[.pointer o,I64 k,.agg #[I64 c0,I64 p,I64 q]] c fun ae z=>∃r s t,ae=(.slice r s t)∧
 q00 z d e=some (.slice f g i)∧
 RunW Tryz.prog (Builtin.append_ #[24,24] 24 #[.slice f g i,.slice r s t]) z fun af ag=>
 ∃u v w,af=(.slice u v w)∧
 ST ag d e [.slice u v w] fun aa=>
 aa[a.size+1]?=some (.loop { b with state:=.busy })∧K_ (.bool true) (q0q aa (a.size+1) b)
def q31.y2 (c d:Nat)(a:Heap)(R1:Loop)(ao:List Value)(i:Heap)(ap:Value→Heap→Prop):Prop:=
 ∃j k l m n o p q r s,ao=[.agg #[I64 j,.string k],.agg ⟨[I64 l,I64 m,.int .u64 n,I64 o,I64 p,I64 q,I64 r]++vecL .i64 s 65 0⟩]∧
 i[a.size+1]?=some (.loop R1)∧
 AL i [I64 0,(.string (⟨#[]⟩:ByteArray))] 55 fun aj aq=>
 ST aq aj 0 [I64 j,.string k] fun ar=>
 AL ar ([I64 0,I64 0,.int .u64 0,I64 0,I64 0,I64 0,I64 0]++vecL .i64 Z0 65 0) 62 fun ak au=>
 ST au ak 0 ([I64 l,I64 m,.int .u64 n,I64 o,I64 p,I64 q,I64 r]++vecL .i64 s 65 0) fun al=>
 al[a.size+1]?=some (.loop R1)∧
 ∀b,b=q0q al (a.size+1) { R1 with state:=.busy }→
 ∃e f g,q00 b c d=some (.slice e f g)∧
 ∃t u,q01 b aj 0 [I64 t,.string u]∧
 ∃v w x y z aa ab ac,q01 b ak 0 ([I64 v,I64 w,.int .u64 x,I64 y,I64 z,I64 aa,I64 ab]++vecL .i64 ac 65 0)∧
 CF 65 #[.agg #[I64 t,.string u],.agg ⟨[I64 v,I64 w,.int .u64 x,I64 y,I64 z,I64 aa,I64 ab]++vecL .i64 ac 65 0⟩] b fun av am=>∃ad ae af,av=(.slice ad ae af)∧
 q00 am c d=some (.slice e f g)∧
 RunW Tryz.prog (Builtin.append_ #[24,24] 24 #[.slice e f g,.slice ad ae af]) am fun aw ax=>
 ∃ag ah ai,aw=(.slice ag ah ai)∧
 ST ax c d [.slice ag ah ai] fun an=>
 an[a.size+1]?=some (.loop { R1 with state:=.busy })∧ap (.bool true) (q0q an (a.size+1) R1)
def q31.l3 (K:KT)(c d:Nat)(l f:Heap)(ax:Option Addr)(m:Nat)(ay:Int→Heap→Prop)(n:Int→Heap→Nat)(a:Int)(b:Heap):Prop:=
 IF (decide (a < (m:Int))) (
 ((0:Int)≤a∧a < (m:Int))∧∃ar au:Nat,(ax=some ⟨ar,au,none⟩)∧
 ∃o p q r s t u v w x,q01 b ar (au+a.toNat*74) ([I64 o,.string p,I64 q,I64 r,.int .u64 s,I64 t,I64 u,I64 v,I64 w]++vecL .i64 x 65 0)∧
 AL b ([I64 0,(.string (⟨#[]⟩:ByteArray)),I64 0,I64 0,.int .u64 0,I64 0,I64 0,I64 0,I64 0]++vecL .i64 Z0 65 0) 64 fun k az=>
 ST az k 0 ([I64 o,.string p,I64 q,I64 r,.int .u64 s,I64 t,I64 u,I64 v,I64 w]++vecL .i64 x 65 0) fun e=>
 ∃g i j,q00 e c d=some (.slice g i j)∧
 ∃y z,q01 e k 0 [I64 y,.string z]∧
 ∃aa ab ac ad ae af ag ah,q01 e k 2 ([I64 aa,I64 ab,.int .u64 ac,I64 ad,I64 ae,I64 af,I64 ag]++vecL .i64 ah 65 0)∧
 CF 65 #[.agg #[I64 y,.string z],.agg ⟨[I64 aa,I64 ab,.int .u64 ac,I64 ad,I64 ae,I64 af,I64 ag]++vecL .i64 ah 65 0⟩] e fun a0 av=>∃ai aj ak,a0=(.slice ai aj ak)∧
 q00 av c d=some (.slice g i j)∧
 RunW Tryz.prog (Builtin.append_ #[24,24] 24 #[.slice g i j,.slice ai aj ak]) av fun a1 a2=>
 ∃al am an,a1=(.slice al am an)∧
 ST a2 c d [.slice al am an] fun aw=>
 ay (i64.wrap (a+1)) aw∧n (i64.wrap (a+1)) aw < n a b) (
 ∃ao ap aq,q00 b c d=some (.slice ao ap aq)∧
 b[f.size]?=some (.deferred (some []))∧
 (b.setIfInBounds f.size (.deferred none))[l.size]?=some (.deferred (some []))∧
 K (.slice ao ap aq) ((b.setIfInBounds f.size (.deferred none)).setIfInBounds l.size (.deferred none)))
def q31.r4 (K:KT)(c a b:Nat)(i:Heap):Prop:=
 ∃l m n,q00 i a b=some (.slice l m n)∧
 ∃o,q00 i c 0=some (.pointer o)∧
 NN o (
 ∃aw,q00 i (adrB o) ((adrO o)+16)=some (.pointer aw)∧
 ∃ax,CQ 60 #[.pointer aw] i (I64 ax)∧
 AL i [I64 ax] 2 fun cc bx=>
 q00 bx a b=some (.slice l m n)∧
 CF 59 #[.slice (some ⟨cc,0,none⟩) 1 1] bx fun cd bz=>∃ay az a0,cd=(.slice ay az a0)∧
 q00 bz a b=some (.slice l m n)∧
 RunW Tryz.prog (Builtin.append_ #[24,24] 24 #[.slice l m n,.slice ay az a0]) bz fun ce cf=>
 ∃a1 a2 a3,ce=(.slice a1 a2 a3)∧
 ST cf a b [.slice a1 a2 a3] fun k=>
 ∃p q r,q00 k a b=some (.slice p q r)∧
 ∃s,q00 k c 0=some (.pointer s)∧
 NN s (
 ∃a4,q00 k (adrB s) ((adrO s)+18)=some (.map a4)∧
 ∃bw:Int,q09 Tryz.prog (Builtin.len_ #[113] 3 #[.map a4]) k (.int .i64 bw)∧
 AL k [I64 bw] 2 fun cg b0=>
 q00 b0 a b=some (.slice p q r)∧
 CF 57 #[.slice (some ⟨cg,0,none⟩) 1 1] b0 fun ch b1=>∃a5 a6 a7,ch=(.slice a5 a6 a7)∧
 q00 b1 a b=some (.slice p q r)∧
 RunW Tryz.prog (Builtin.append_ #[24,24] 24 #[.slice p q r,.slice a5 a6 a7]) b1 fun ci cj=>
 ∃a8 a9 ba,ci=(.slice a8 a9 ba)∧
 ST cj a b [.slice a8 a9 ba] fun aj=>
 ∃t,q00 aj c 0=some (.pointer t)∧
 NN t (
 ∃bb,q00 aj (adrB t) ((adrO t)+15)=some (.pointer bb)∧
 CF 61 #[.pointer bb] aj fun ck d=>∃ah bc,ck=(.func (.func ah) #[] ⟨bc⟩)∧
 memN ah X.calls=true∧
 ∀g:Loop,g.state=.ready→g.pending=none→
 (∀(am:List Value) (an:Heap) (K_:Value→Heap→Prop),q31.y1 c a b d g am an K_→q33 Tryz.prog (d.size+1) am an K_)→
 CF ah ⟨(.func (.yield (d.size+1)) #[] #[])::bc⟩ ((d.push (.deferred (some []))).push (.loop g)) fun cu b2=>∃(ao:LoopState) (ae:Option Code),ao≠.busy∧b2[d.size+1]?=some (.loop { g with state:=ao,pending:=ae })∧
 ∀f,f=q0q b2 (d.size+1) { g with state:=.exhausted,pending:=ae }→
 ae=none∧
 ∃u v w,q00 f a b=some (.slice u v w)∧
 ∃x,q00 f c 0=some (.pointer x)∧
 NN x (
 ∃bd,q00 f (adrB x) ((adrO x)+17)=some (.pointer bd)∧
 ∃r1,CQ 63 #[.pointer bd] f (I64 r1)∧
 AL f [I64 r1] 2 fun cl b3=>
 q00 b3 a b=some (.slice u v w)∧
 CF 57 #[.slice (some ⟨cl,0,none⟩) 1 1] b3 fun cm b4=>∃be bf bg,cm=(.slice be bf bg)∧
 q00 b4 a b=some (.slice u v w)∧
 RunW Tryz.prog (Builtin.append_ #[24,24] 24 #[.slice u v w,.slice be bf bg]) b4 fun cn co=>
 ∃bh bi bj,cn=(.slice bh bi bj)∧
 ST co a b [.slice bh bi bj] fun ak=>
 ∃y,q00 ak c 0=some (.pointer y)∧
 NN y (
 ∃bk,q00 ak (adrB y) ((adrO y)+17)=some (.pointer bk)∧
 CF 64 #[.pointer bk] ak fun cp e=>∃ai bl,cp=(.func (.func ai) #[] ⟨bl⟩)∧
 memN ai X.calls=true∧
 ∀R1:Loop,R1.state=.ready→R1.pending=none→
 (∀(ap:List Value) (aq:Heap) (ar:Value→Heap→Prop),q31.y2 a b e R1 ap aq ar→q33 Tryz.prog (e.size+1) ap aq ar)→
 CF ai ⟨(.func (.yield (e.size+1)) #[] #[])::bl⟩ ((e.push (.deferred (some []))).push (.loop R1)) fun cv b5=>∃(au:LoopState) (af:Option Code),au≠.busy∧b5[e.size+1]?=some (.loop { R1 with state:=au,pending:=af })∧
 ∀j,j=q0q b5 (e.size+1) { R1 with state:=.exhausted,pending:=af }→
 af=none∧
 ∃z aa ab,q00 j a b=some (.slice z aa ab)∧
 ∃ac,q00 j c 0=some (.pointer ac)∧
 NN ac (
 ∃b9 av ca,q00 j (adrB ac) ((adrO ac)+19)=some (.slice b9 av ca)∧
 AL j [(I64 (av:Int))] 2 fun cq b6=>
 q00 b6 a b=some (.slice z aa ab)∧
 CF 57 #[.slice (some ⟨cq,0,none⟩) 1 1] b6 fun cr b7=>∃bm bn bo,cr=(.slice bm bn bo)∧
 q00 b7 a b=some (.slice z aa ab)∧
 RunW Tryz.prog (Builtin.append_ #[24,24] 24 #[.slice z aa ab,.slice bm bn bo]) b7 fun cs ct=>
 ∃bp bq br,cs=(.slice bp bq br)∧
 ST ct a b [.slice bp bq br] fun al=>
 ∃ad,q00 al c 0=some (.pointer ad)∧
 NN ad (
 ∃bs bt cb,q00 al (adrB ad) ((adrO ad)+19)=some (.slice bs bt cb)∧
 ∃(ag:Int→Heap→Prop) (b8:Int→Heap→Nat),ag 0 al∧
 ∀bu bv,ag bu bv→q31.l3 K a b d e bs bt ag b8 bu bv)))))))
def q31.code (ae af:Nat)(H:Heap)(K:KT):Prop:=
 AL H [PA ae af] 27 fun c a=>
 ∀m:Nat→Nat→Heap→Prop,(∀(n:Nat) (o:Nat),∀y:Heap,q31.r4 K c n o y→m n o y)→
 ∃d,q00 a c 0=some (.pointer d)∧
 NN d (
 ∃i,q00 a (adrB d) ((adrO d)+9)=some (I64 i)∧
 ∃e,q00 a c 0=some (.pointer e)∧
 NN e (
 ∃j,q00 a (adrB e) ((adrO e)+10)=some (I64 j)∧
 ∃f,q00 a c 0=some (.pointer f)∧
 NN f (
 ∃k,q00 a (adrB f) ((adrO f)+11)=some (I64 k)∧
 ∃g,q00 a c 0=some (.pointer g)∧
 NN g (
 ∃l,q00 a (adrB g) ((adrO g)+16)=some (.pointer l)∧
 ∃r2,CQ 58 #[.pointer l] a (I64 r2)∧
 (AL a [I64 i,I64 j,I64 k,I64 r2] 2 fun z aa=>
 (CF 57 #[.slice (some ⟨z,0,none⟩) 4 4] aa fun ag ah=>∃p q r,ag=(.slice p q r)∧
 AL ah [.slice none 0 0] 24 fun ab ai=>
 ST ai ab 0 [.slice p q r] fun aj=>
 m ab 0 aj)∧
 (AL aa [.slice none 0 0] 24 fun ac ak=>
 CF 57 #[.slice (some ⟨z,0,none⟩) 4 4] ak fun al am=>∃s t u,al=(.slice s t u)∧
 ST am ac 0 [.slice s t u] fun an=>
 m ac 0 an))∧
 (AL a [.slice none 0 0] 24 fun ad b=>
 CQ 58 #[.pointer l] b (I64 r2)∧
 q00 b (adrB g) ((adrO g)+16)=some (.pointer l)∧
 q00 b c 0=some (.pointer g)∧
 q00 b (adrB f) ((adrO f)+11)=some (I64 k)∧
 q00 b c 0=some (.pointer f)∧
 q00 b (adrB e) ((adrO e)+10)=some (I64 j)∧
 q00 b c 0=some (.pointer e)∧
 q00 b (adrB d) ((adrO d)+9)=some (I64 i)∧
 q00 b c 0=some (.pointer d)∧
 AL b [I64 i,I64 j,I64 k,I64 r2] 2 fun ao ap=>
 CF 57 #[.slice (some ⟨ao,0,none⟩) 4 4] ap fun aq ar=>∃v w x,aq=(.slice v w x)∧
 ST ar ad 0 [.slice v w x] fun au=>
 m ad 0 au)))))
theorem q31.call {a b H K:_}(hK:q31.code a b H K):CF 15 ⟨[PA a b]⟩ H K:=
 cE Tryz.func15 (.r (.seq (.regJ [(3,.one (.adr))]) (.r (.r (.seq (.r (.blk (.rng [.one (.int .i64),.agg [.int .i64,.int .i64,.int .i64]] [none] (.r .reg) (.blk .reg)))) (.r (.seq (.r (.blk (.rng [.agg [.int .i64,.str],.agg [.int .i64,.int .i64,.int .u64,.int .i64,.int .i64,.int .i64,.int .i64,.vec .i64 65]] [none] (.r .reg) (.blk .reg)))) (.r (.seq (.r (.blk (.loop [(95,.one (.int .i64))] (.r (.seq (.cond .no .no) (.seq (.blk (.r .reg)) .reg)))))) (.r .no)))))))))) hK
def q4b.code (c0 x y z aa ab ac ad ae:Int)(H:Heap)(K:KT):Prop:=
 AL H [I64 c0,I64 x,I64 y,I64 z,I64 aa,I64 ab,I64 ac,I64 ad,I64 ae] 23 fun a b=>
 ∃d,q00 b a 0=some (I64 d)∧
 ∃e,q00 b a 1=some (I64 e)∧
 ∃f,q00 b a 2=some (I64 f)∧
 CF 20 #[I64 d,I64 e,I64 f] b fun ah ai=>∃g r1 r2 i,ah=(.tuple #[.agg #[I64 g,I64 r1,I64 r2],I64 i])∧
 AL ai [I64 0,I64 0,I64 0] 70 fun aj ak=>
 ST ak aj 0 [I64 g,I64 r1,I64 r2] fun t=>
 ∃j,q00 t a 3=some (I64 j)∧
 CF 52 #[I64 j] t fun al c=>∃r3 r4,al=(.tuple #[.pointer r3,I64 r4])∧
 ∃k,q00 c a 4=some (I64 k)∧
 ∃l,q00 c a 5=some (I64 l)∧
 CF 53 #[I64 k,I64 l] c fun am u=>∃r5 r6,am=(.tuple #[.pointer r5,I64 r6])∧
 ∃m,q00 u a 6=some (I64 m)∧
 CF 54 #[I64 m] u fun an v=>∃r7 n,an=(.tuple #[.pointer r7,I64 n])∧
 ∃o,q00 v a 7=some (I64 o)∧
 CF 55 #[I64 o] v fun ao w=>∃af p,ao=(.tuple #[.pointer af,I64 p])∧
 ∃q,q00 w a 8=some (I64 q)∧
 CF 56 #[I64 0,I64 q] w fun ap aq=>∃ag r,ap=(.tuple #[.pointer ag,I64 r])∧
 ∃s:Bool,q7d Tryz.prog .eql 138 (.agg #[I64 i,I64 r4,I64 r6,I64 n,I64 p,I64 r]) (.agg #[I64 0,I64 0,I64 0,I64 0,I64 0,I64 0]) s∧
 K (.bool s) aq
theorem q4b.call {a b c d e f g i j H K:_}(hK:q4b.code a b c d e f g i j H K):CF 13 ⟨[.agg #[I64 a,I64 b,I64 c,I64 d,I64 e,I64 f,I64 g,I64 i,I64 j]]⟩ H K:=
 cE Tryz.func13 (.r (.r (.r (.r (.r (.r (.r (.r .no)))))))) hK
def q0x.r1 (K:KT)(a b:Nat)(d:Heap):Prop:=
 ∃e,q00 d a 0=some (.pointer e)∧
 ST d a 0 [.pointer e] fun i=>
 ST i b 0 [I64 0] fun j=>
 memN 37 X.calls=true∧
 DefQ Tryz.prog 37 [PA a 0,PA b 0] .returning j fun k c=>k=.returning∧
 ∃f,q00 c a 0=some (.pointer f)∧
 ∃g,q00 c b 0=some (I64 g)∧
 K (.tuple #[.pointer f,I64 g]) c
def q0x.l2 (be:Option Addr)(bf bg:Nat)(K:KT)(a b:Nat)(r1:Int)(p:Nat)(bh:Int→Heap→Prop)(q:Int→Heap→Nat)(g:Int)(f:Heap):Prop:=
 IF (decide (0 < g)) (
 ∃r,q01 f p 0 [.pointer r]∧
 CP 47 #[.agg #[.pointer r]] f (fun bi bj=>∃s t u v w x y z aa ab,bi=(.tuple #[.agg #[I64 s,.string t],.agg ⟨[I64 u,I64 v,.int .u64 w,I64 x,I64 y,I64 z,I64 aa]++vecL .i64 ab 65 0⟩])∧
 AL bj [I64 0,(.string (⟨#[]⟩:ByteArray))] 55 fun a6 bk=>
 AL bk ([I64 0,I64 0,.int .u64 0,I64 0,I64 0,I64 0,I64 0]++vecL .i64 Z0 65 0) 62 fun a7 bl=>
 ST bl a6 0 [I64 s,.string t] fun bm=>
 ST bm a7 0 ([I64 u,I64 v,.int .u64 w,I64 x,I64 y,I64 z,I64 aa]++vecL .i64 ab 65 0) fun e=>
 ∃d,q00 e a 0=some (.pointer d)∧
 ∃c,q00 e a 0=some (.pointer c)∧
 NN c (
 ∃j k l,q00 e (adrB c) ((adrO c)+19)=some (.slice j k l)∧
 ∃ac ad,q01 e a6 0 [I64 ac,.string ad]∧
 ∃ae af ag ah ai aj ak al,q01 e a7 0 ([I64 ae,I64 af,.int .u64 ag,I64 ah,I64 ai,I64 aj,I64 ak]++vecL .i64 al 65 0)∧
 AL e ([I64 ac,.string ad,I64 ae,I64 af,.int .u64 ag,I64 ah,I64 ai,I64 aj,I64 ak]++vecL .i64 al 65 0) 64 fun bn i=>
 q00 i (adrB c) ((adrO c)+19)=some (.slice j k l)∧
 q00 i a 0=some (.pointer c)∧
 q00 i a 0=some (.pointer d)∧
 RunW Tryz.prog (Builtin.append_ #[86,86] 86 #[.slice j k l,.slice (some ⟨bn,0,none⟩) 1 1]) i fun bo a8=>
 ∃am an ao,bo=(.slice am an ao)∧
 q00 a8 a 0=some (.pointer d)∧
 NN d (
 ST a8 (adrB d) ((adrO d)+19) [.slice am an ao] fun a9=>
 bh (u64.wrap (g - 1)) a9∧q (u64.wrap (g - 1)) a9 < q g f))) (fun ba bp=>
 memN 37 X.calls=true∧
 DefQ Tryz.prog 37 [PA a 0,PA b 0] (panM ba false) bp fun bq m=>bq=panM ba true∧
 ∃ap,q00 m a 0=some (.pointer ap)∧
 ∃aq,q00 m b 0=some (I64 aq)∧
 K (.tuple #[.pointer ap,I64 aq]) m)) (
 ∃ar,q00 f p 0=some (.pointer ar)∧
 CF 50 #[.pointer ar] f fun br bs=>∃au,br=(I64 au)∧
 CP 45 #[I64 au] bs (fun bt bb=>bt=(.tuple #[])∧
 ∃av,q00 bb a 0=some (.pointer av)∧
 CF 15 #[.pointer av] bb fun bu bv=>∃aw ax ay,bu=(.slice aw ax ay)∧
 CF 51 #[.slice aw ax ay,.slice be bf bg] bv fun bw bc=>∃az,bw=(.bool az)∧
 ∀a5:Heap→Prop,(∀a0,q0x.r1 K a b a0→a5 a0)→
 IF (!az) (
 memN 37 X.calls=true∧
 DefQ Tryz.prog 37 [PA a 0,PA b 0] (panM (.iface 28 (I64 10)) false) bc fun bx n=>bx=panM (.iface 28 (I64 10)) true∧
 ∃a1,q00 n a 0=some (.pointer a1)∧
 ∃a2,q00 n b 0=some (I64 a2)∧
 K (.tuple #[.pointer a1,I64 a2]) n) (
 a5 bc)) (fun bd bz=>
 memN 37 X.calls=true∧
 DefQ Tryz.prog 37 [PA a 0,PA b 0] (panM bd false) bz fun b0 o=>b0=panM bd true∧
 ∃a3,q00 o a 0=some (.pointer a3)∧
 ∃a4,q00 o b 0=some (I64 a4)∧
 K (.tuple #[.pointer a3,I64 a4]) o))
def q0x.l3 (a2:Option Addr)(a3 a4:Nat)(K:KT)(a b:Nat)(r1:Int)(g:Nat)(a5:Int)(a6:Int→Heap→Prop)(m:Int→Heap→Nat)(e:Int)(c:Heap):Prop:=
 IF (decide (e < a5)) (
 ∃n,q01 c g 0 [.pointer n]∧
 CP 47 #[.agg #[.pointer n]] c (fun a8 a9=>∃o p q r s t u v w x,a8=(.tuple #[.agg #[I64 o,.string p],.agg ⟨[I64 q,I64 r,.int .u64 s,I64 t,I64 u,I64 v,I64 w]++vecL .i64 x 65 0⟩])∧
 AL a9 [I64 0,(.string (⟨#[]⟩:ByteArray))] 55 fun aw ba=>
 AL ba ([I64 0,I64 0,.int .u64 0,I64 0,I64 0,I64 0,I64 0]++vecL .i64 Z0 65 0) 62 fun ax bb=>
 ST bb aw 0 [I64 o,.string p] fun bc=>
 ST bc ax 0 ([I64 q,I64 r,.int .u64 s,I64 t,I64 u,I64 v,I64 w]++vecL .i64 x 65 0) fun d=>
 ∃f,q00 d a 0=some (.pointer f)∧
 NN f (
 ∃y,q00 d (adrB f) ((adrO f)+17)=some (.pointer y)∧
 ∃z aa,q01 d aw 0 [I64 z,.string aa]∧
 ∃ab ac ad ae af ag ah ai,q01 d ax 0 ([I64 ab,I64 ac,.int .u64 ad,I64 ae,I64 af,I64 ag,I64 ah]++vecL .i64 ai 65 0)∧
 CF 48 #[.pointer y,.agg #[I64 z,.string aa],.agg ⟨[I64 ab,I64 ac,.int .u64 ad,I64 ae,I64 af,I64 ag,I64 ah]++vecL .i64 ai 65 0⟩] d fun bd be=>∃aj,bd=(I64 aj)∧
 CP 45 #[I64 aj] be (fun bf ay=>bf=(.tuple #[])∧
 a6 (i64.wrap (e+1)) ay∧m (i64.wrap (e+1)) ay < m e c) (fun az bg=>
 memN 37 X.calls=true∧
 DefQ Tryz.prog 37 [PA a 0,PA b 0] (panM az false) bg fun bh j=>bh=panM az true∧
 ∃ak,q00 j a 0=some (.pointer ak)∧
 ∃al,q00 j b 0=some (I64 al)∧
 K (.tuple #[.pointer ak,I64 al]) j))) (fun a0 bi=>
 memN 37 X.calls=true∧
 DefQ Tryz.prog 37 [PA a 0,PA b 0] (panM a0 false) bi fun bj k=>bj=panM a0 true∧
 ∃am,q00 k a 0=some (.pointer am)∧
 ∃an,q00 k b 0=some (I64 an)∧
 K (.tuple #[.pointer am,I64 an]) k)) (
 ∃ao,q01 c g 0 [.pointer ao]∧
 CP 49 #[.agg #[.pointer ao]] c (fun bk bl=>∃ap,bk=(.int .u64 ap)∧
 ∃(i:Int→Heap→Prop) (a7:Int→Heap→Nat),i ap bl∧
 ∀aq ar,i aq ar→q0x.l2 a2 a3 a4 K a b r1 g i a7 aq ar) (fun a1 bm=>
 memN 37 X.calls=true∧
 DefQ Tryz.prog 37 [PA a 0,PA b 0] (panM a1 false) bm fun bn l=>bn=panM a1 true∧
 ∃au,q00 l a 0=some (.pointer au)∧
 ∃av,q00 l b 0=some (I64 av)∧
 K (.tuple #[.pointer au,I64 av]) l))
def q0x.l4 (ar:Option Addr)(au av:Nat)(K:KT)(a b:Nat)(r1:Int)(d:Nat)(r6 r7:Int)(o:Nat)(aw:Int)(ax:Int→Heap→Prop)(p:Int→Heap→Nat)(e:Int)(c:Heap):Prop:=
 IF (decide (e < aw)) (
 ∃q,q01 c d 0 [.pointer q]∧
 CP 43 #[.agg #[.pointer q]] c (fun az j=>∃i,az=(I64 i)∧
 ∃r,q01 j d 0 [.pointer r]∧
 ∃s,q00 j a 0=some (.pointer s)∧
 CP 44 #[.agg #[.pointer r],.pointer s,I64 i] j (fun a0 a1=>∃t u v w,a0=(.agg #[I64 t,.bool u,.bool v,.bool w])∧
 RunW Tryz.prog (Instr.mapUpdate 116 (.map (some o)) (I64 i) (.agg #[I64 t,.bool u,.bool v,.bool w])) a1 fun bf al=>
 ax (i64.wrap (e+1)) al∧p (i64.wrap (e+1)) al < p e c) (fun am a2=>
 memN 37 X.calls=true∧
 DefQ Tryz.prog 37 [PA a 0,PA b 0] (panM am false) a2 fun a3 k=>a3=panM am true∧
 ∃x,q00 k a 0=some (.pointer x)∧
 ∃y,q00 k b 0=some (I64 y)∧
 K (.tuple #[.pointer x,I64 y]) k)) (fun an a4=>
 memN 37 X.calls=true∧
 DefQ Tryz.prog 37 [PA a 0,PA b 0] (panM an false) a4 fun a5 l=>a5=panM an true∧
 ∃z,q00 l a 0=some (.pointer z)∧
 ∃aa,q00 l b 0=some (I64 aa)∧
 K (.tuple #[.pointer z,I64 aa]) l)) (
 ∃f,q00 c a 0=some (.pointer f)∧
 NN f (
 ∃ab,q00 c (adrB f) ((adrO f)+16)=some (.pointer ab)∧
 CF 46 #[.pointer ab,I64 r6,I64 r7,.map (some o)] c fun a6 a7=>∃ac,a6=(I64 ac)∧
 CP 45 #[I64 ac] a7 (fun a8 ao=>a8=(.tuple #[])∧
 ∃ad,q01 ao d 0 [.pointer ad]∧
 CP 42 #[.agg #[.pointer ad],I64 1024] ao (fun a9 ba=>∃ae,a9=(I64 ae)∧
 ∃(g:Int→Heap→Prop) (ay:Int→Heap→Nat),g 0 ba∧
 ∀af ag,g af ag→q0x.l3 ar au av K a b r1 d ae g ay af ag) (fun ap bb=>
 memN 37 X.calls=true∧
 DefQ Tryz.prog 37 [PA a 0,PA b 0] (panM ap false) bb fun bc m=>bc=panM ap true∧
 ∃ah,q00 m a 0=some (.pointer ah)∧
 ∃ai,q00 m b 0=some (I64 ai)∧
 K (.tuple #[.pointer ah,I64 ai]) m)) (fun aq bd=>
 memN 37 X.calls=true∧
 DefQ Tryz.prog 37 [PA a 0,PA b 0] (panM aq false) bd fun be n=>be=panM aq true∧
 ∃aj,q00 n a 0=some (.pointer aj)∧
 ∃ak,q00 n b 0=some (I64 ak)∧
 K (.tuple #[.pointer aj,I64 ak]) n)))
def q0x.code (c0 bp bq br bs bt bu bv bw:Int)(ac:Option Addr)(ad ae:Nat)(H:Heap)(K:KT):Prop:=
 AL H [I64 c0,I64 bp,I64 bq,I64 br,I64 bs,I64 bt,I64 bu,I64 bv,I64 bw] 23 fun bz b0=>
 AL b0 [.pointer none] 27 fun a b1=>
 AL b1 [I64 0] 28 fun b be=>
 ∃ag ah ai aj ak al am an ao,q01 be bz 0 [I64 ag,I64 ah,I64 ai,I64 aj,I64 ak,I64 al,I64 am,I64 an,I64 ao]∧
 CF 16 #[.agg #[I64 ag,I64 ah,I64 ai,I64 aj,I64 ak,I64 al,I64 am,I64 an,I64 ao]] be fun b2 b3=>∃ap r1,b2=(.tuple #[.pointer ap,I64 r1])∧
 ST b3 a 0 [.pointer ap] fun b4=>
 ST b4 b 0 [I64 r1] fun n=>
 ∃aq,q00 n b 0=some (I64 aq)∧
 IF (!decide (aq=0)) (
 ∃r,q00 n b 0=some (I64 r)∧
 ST n a 0 [.pointer none] fun bf=>
 q00 bf b 0=some (I64 r)∧
 ST bf b 0 [I64 r] fun u=>
 ∃ar,q00 u a 0=some (.pointer ar)∧
 ∃au,q00 u b 0=some (I64 au)∧
 K (.tuple #[.pointer ar,I64 au]) u) (
 CF 39 #[.slice ac ad ae] n fun b5 b6=>∃r2,b5=(.pointer r2)∧
 AL b6 [.pointer none] 109 fun c b7=>
 ST b7 c 0 [.pointer r2] fun g=>
 ∃f,q00 g a 0=some (.pointer f)∧
 ∃e,q00 g a 0=some (.pointer e)∧
 ∃d,q00 g a 0=some (.pointer d)∧
 ∃av,q01 g c 0 [.pointer av]∧
 ∃s,q01 g c 0 [.pointer s]∧
 ∃l,q01 g c 0 [.pointer l]∧
 CP 40 #[.agg #[.pointer av],I64 4611686018427387903] g (fun b8 i=>∃r3,b8=(I64 r3)∧
 q01 i c 0 [.pointer l]∧
 q01 i c 0 [.pointer s]∧
 q00 i a 0=some (.pointer d)∧
 q00 i a 0=some (.pointer e)∧
 q00 i a 0=some (.pointer f)∧
 CP 40 #[.agg #[.pointer s],I64 1099511627776] i (fun b9 j=>∃r4,b9=(I64 r4)∧
 q01 j c 0 [.pointer l]∧
 q00 j a 0=some (.pointer d)∧
 q00 j a 0=some (.pointer e)∧
 q00 j a 0=some (.pointer f)∧
 CP 40 #[.agg #[.pointer l],I64 1099511627776] j (fun ca o=>∃r5,ca=(I64 r5)∧
 q00 o a 0=some (.pointer d)∧
 q00 o a 0=some (.pointer e)∧
 q00 o a 0=some (.pointer f)∧
 NN f (
 ST o (adrB f) ((adrO f)+9) [I64 r3] fun v=>
 q00 v a 0=some (.pointer d)∧
 q00 v a 0=some (.pointer e)∧
 NN e (
 ST v (adrB e) ((adrO e)+10) [I64 r4] fun bg=>
 q00 bg a 0=some (.pointer d)∧
 NN d (
 ST bg (adrB d) ((adrO d)+11) [I64 r5] fun k=>
 ∃aw,q01 k c 0 [.pointer aw]∧
 ∃m,q00 k a 0=some (.pointer m)∧
 NN m (
 ∃ax,q00 k (adrB m) ((adrO m)+9)=some (I64 ax)∧
 ∃t,q01 k c 0 [.pointer t]∧
 CP 40 #[.agg #[.pointer aw],I64 ax] k (fun cb bh=>∃r6,cb=(I64 r6)∧
 q01 bh c 0 [.pointer t]∧
 CP 41 #[.agg #[.pointer t]] bh (fun cc bi=>∃r7,cc=(I64 r7)∧
 ∀(af:Nat) (p:Heap),af=bi.size→p=bi.push (.map #[] 0)→
 ∃ay,q01 p c 0 [.pointer ay]∧
 CP 42 #[.agg #[.pointer ay],I64 64] p (fun cd ce=>∃az,cd=(I64 az)∧
 ∃(q:Int→Heap→Prop) (bx:Int→Heap→Nat),q 0 ce∧
 ∀a0 a1,q a0 a1→q0x.l4 ac ad ae K a b r1 c r6 r7 af az q bx a0 a1) (fun bj cf=>
 memN 37 X.calls=true∧
 DefQ Tryz.prog 37 [PA a 0,PA b 0] (panM bj false) cf fun cg w=>cg=panM bj true∧
 ∃a2,q00 w a 0=some (.pointer a2)∧
 ∃a3,q00 w b 0=some (I64 a3)∧
 K (.tuple #[.pointer a2,I64 a3]) w)) (fun bk ch=>
 memN 37 X.calls=true∧
 DefQ Tryz.prog 37 [PA a 0,PA b 0] (panM bk false) ch fun ci x=>ci=panM bk true∧
 ∃a4,q00 x a 0=some (.pointer a4)∧
 ∃a5,q00 x b 0=some (I64 a5)∧
 K (.tuple #[.pointer a4,I64 a5]) x)) (fun bl cj=>
 memN 37 X.calls=true∧
 DefQ Tryz.prog 37 [PA a 0,PA b 0] (panM bl false) cj fun ck y=>ck=panM bl true∧
 ∃a6,q00 y a 0=some (.pointer a6)∧
 ∃a7,q00 y b 0=some (I64 a7)∧
 K (.tuple #[.pointer a6,I64 a7]) y)))))) (fun bm cl=>
 memN 37 X.calls=true∧
 DefQ Tryz.prog 37 [PA a 0,PA b 0] (panM bm false) cl fun cm z=>cm=panM bm true∧
 ∃a8,q00 z a 0=some (.pointer a8)∧
 ∃a9,q00 z b 0=some (I64 a9)∧
 K (.tuple #[.pointer a8,I64 a9]) z)) (fun bn cn=>
 memN 37 X.calls=true∧
 DefQ Tryz.prog 37 [PA a 0,PA b 0] (panM bn false) cn fun co aa=>co=panM bn true∧
 ∃ba,q00 aa a 0=some (.pointer ba)∧
 ∃bb,q00 aa b 0=some (I64 bb)∧
 K (.tuple #[.pointer ba,I64 bb]) aa)) (fun bo cp=>
 memN 37 X.calls=true∧
 DefQ Tryz.prog 37 [PA a 0,PA b 0] (panM bo false) cp fun cq ab=>cq=panM bo true∧
 ∃bc,q00 ab a 0=some (.pointer bc)∧
 ∃bd,q00 ab b 0=some (I64 bd)∧
 K (.tuple #[.pointer bc,I64 bd]) ab))
theorem q0x.call {a b c d e f g i j k l m H K:_}(hK:q0x.code a b c d e f g i j k l m H K):CF 11 ⟨[.agg #[I64 a,I64 b,I64 c,I64 d,I64 e,I64 f,I64 g,I64 i,I64 j],.slice k l m]⟩ H K:=
 cE Tryz.func11 (.r (.r (.seq (.r (.cond (.r .no) .no)) (.r (.r (.r (.r (.r (.seq (.r (.blk (.loop [(54,.one (.int .i64))] (.r (.seq (.cond .no .no) (.seq (.blk (.r .reg)) .reg)))))) (.r (.seq (.r (.blk (.loop [(76,.one (.int .i64))] (.r (.seq (.cond .no .no) (.seq (.blk (.r .reg)) .reg)))))) (.seq (.r (.blk (.loop [(13,.one (.int .u64))] (.seq (.r (.cond .no .no)) (.seq (.blk (.r .reg)) .reg))))) (.r (.seq (.r (.condJ [] .reg .no)) (.r .no))))))))))))))) hK
open Go.Nm
def q37.l1 (K:KT)(c:Nat)(n:Option Addr)(k l:Nat)(bs:Int→Heap→Prop)(o:Int→Heap→Nat)(a:Int)(e:Heap):Prop:=
 IF (decide (a < (k:Int))) (
 ((0:Int)≤a∧a < (k:Int))∧∃bj bk:Nat,(n=some ⟨bj,bk,none⟩)∧
 ∃p q,q01 e bj (bk+a.toNat*2) [.int .u64 p,.int .u64 q]∧
 AL e [.int .u64 0,.int .u64 0] 280 fun d bt=>
 ST bt d 0 [.int .u64 p,.int .u64 q] fun b=>
 (((decide (0 < a))=true)→((0:Int)≤0∧(0:Int) < 2))∧
 ∃f,(((decide (0 < a))=true)→q00 b d (0+0)=some (.int .u64 f))∧
 (((decide (0 < a))=true)→((0:Int)≤(i64.wrap (a - 1))∧(i64.wrap (a - 1)) < (k:Int)))∧∃bl bm:Nat,(((decide (0 < a))=true)→(n=some ⟨bl,bm,none⟩))∧
 (((decide (0 < a))=true)→((0:Int)≤0∧(0:Int) < 2))∧
 ∃g,(((decide (0 < a))=true)→q00 b bl (bm+(i64.wrap (a - 1)).toNat*2+0)=some (.int .u64 g))∧
 ((((decide (0 < a)) && (decide (f≤g)))=false)→((0:Int)≤0∧(0:Int) < 2))∧
 ∃r,((((decide (0 < a)) && (decide (f≤g)))=false)→q00 b d (0+0)=some (.int .u64 r))∧
 IF (((decide (0 < a)) && (decide (f≤g))) || (decide (65≤r))) (
 ST b c 0 ([I64 0,I64 0,.int .u64 0,I64 0,I64 0,I64 0,I64 0]++vecL .i64 Z0 65 0) fun bn=>
 ∃s t u v w x y z,q01 bn c 0 ([I64 s,I64 t,.int .u64 u,I64 v,I64 w,I64 x,I64 y]++vecL .i64 z 65 0)∧
 K (.tuple #[.agg ⟨[I64 s,I64 t,.int .u64 u,I64 v,I64 w,I64 x,I64 y]++vecL .i64 z 65 0⟩,I64 10]) bn) (
 ((0:Int)≤1∧(1:Int) < 2)∧
 ∃i,q00 b d (0+1)=some (.int .u64 i)∧
 (((decide (i=0))=false)→((0:Int)≤1∧(1:Int) < 2))∧
 ∃aa,(((decide (i=0))=false)→q00 b d (0+1)=some (.int .u64 aa))∧
 IF ((decide (i=0)) || (decide (9223372036854775807 < aa))) (
 ST b c 0 ([I64 0,I64 0,.int .u64 0,I64 0,I64 0,I64 0,I64 0]++vecL .i64 Z0 65 0) fun bo=>
 ∃ab ac ad ae af ag ah ai,q01 bo c 0 ([I64 ab,I64 ac,.int .u64 ad,I64 ae,I64 af,I64 ag,I64 ah]++vecL .i64 ai 65 0)∧
 K (.tuple #[.agg ⟨[I64 ab,I64 ac,.int .u64 ad,I64 ae,I64 af,I64 ag,I64 ah]++vecL .i64 ai 65 0⟩,I64 10]) bo) (
 ((0:Int)≤0∧(0:Int) < 2)∧
 ∃j,q00 b d (0+0)=some (.int .u64 j)∧
 ((0:Int)≤1∧(1:Int) < 2)∧
 ∃aj,q00 b d (0+1)=some (.int .u64 aj)∧
 ((0:Int)≤j∧j < 65)∧
 ST b l (7+j.toNat) [I64 (i64.wrap aj)] fun bp=>
 bs (i64.wrap (a+1)) bp∧o (i64.wrap (a+1)) bp < o a e))) (
 ∃ak al am an ao ap aq ar,q01 e l 0 ([I64 ak,I64 al,.int .u64 am,I64 an,I64 ao,I64 ap,I64 aq]++vecL .i64 ar 65 0)∧
 CF 25 #[.agg ⟨[I64 ak,I64 al,.int .u64 am,I64 an,I64 ao,I64 ap,I64 aq]++vecL .i64 ar 65 0⟩] e fun bu m=>∃au,bu=(.bool au)∧
 IF (!au) (
 ST m c 0 ([I64 0,I64 0,.int .u64 0,I64 0,I64 0,I64 0,I64 0]++vecL .i64 Z0 65 0) fun bq=>
 ∃av aw ax ay az a0 a1 a2,q01 bq c 0 ([I64 av,I64 aw,.int .u64 ax,I64 ay,I64 az,I64 a0,I64 a1]++vecL .i64 a2 65 0)∧
 K (.tuple #[.agg ⟨[I64 av,I64 aw,.int .u64 ax,I64 ay,I64 az,I64 a0,I64 a1]++vecL .i64 a2 65 0⟩,I64 10]) bq) (
 ∃a3 a4 a5 a6 a7 a8 a9 ba,q01 m l 0 ([I64 a3,I64 a4,.int .u64 a5,I64 a6,I64 a7,I64 a8,I64 a9]++vecL .i64 ba 65 0)∧
 ST m c 0 ([I64 a3,I64 a4,.int .u64 a5,I64 a6,I64 a7,I64 a8,I64 a9]++vecL .i64 ba 65 0) fun br=>
 ∃bb bc bd be bf bg bh bi,q01 br c 0 ([I64 bb,I64 bc,.int .u64 bd,I64 be,I64 bf,I64 bg,I64 bh]++vecL .i64 bi 65 0)∧
 K (.tuple #[.agg ⟨[I64 bb,I64 bc,.int .u64 bd,I64 be,I64 bf,I64 bg,I64 bh]++vecL .i64 bi 65 0⟩,I64 0]) br))
def q37.l2 (K:KT)(b e:Nat)(r4 r5:Int)(r6:ByteArray)(aq:Option Addr)(ar:Nat)(c0 au av:Int)(aw:Int→Heap→Prop)(i:Int→Heap→Nat)(c:Int)(a:Heap):Prop:=
 IF (decide (c < 3)) (
 ∃j,q5z Tryz.prog (Instr.index 278 (.agg #[.int .u64 c0,.int .u64 au,.int .u64 av]) (I64 c)) (.int .u64 j)∧
 IF (decide (9223372036854775807 < j)) (
 ST a b 0 ([I64 0,I64 0,.int .u64 0,I64 0,I64 0,I64 0,I64 0]++vecL .i64 Z0 65 0) fun an=>
 ∃k l m n o p q r,q01 an b 0 ([I64 k,I64 l,.int .u64 m,I64 n,I64 o,I64 p,I64 q]++vecL .i64 r 65 0)∧
 K (.tuple #[.agg ⟨[I64 k,I64 l,.int .u64 m,I64 n,I64 o,I64 p,I64 q]++vecL .i64 r 65 0⟩,I64 10]) an) (
 aw (i64.wrap (c+1)) a∧i (i64.wrap (c+1)) a < i c a)) (
 ((0:Int)≤0∧(0:Int) < 3)∧
 ∃s,q00 a e (0+0)=some (.int .u64 s)∧
 ((0:Int)≤1∧(1:Int) < 3)∧
 ∃t,q00 a e (0+1)=some (.int .u64 t)∧
 ((0:Int)≤2∧(2:Int) < 3)∧
 ∃u,q00 a e (0+2)=some (.int .u64 u)∧
 AL a ([I64 0,I64 0,.int .u64 0,I64 0,I64 0,I64 0,I64 0]++vecL .i64 Z0 65 0) 62 fun d ay=>
 ST ay d 0 ([I64 (i64.wrap s),I64 0,.int .u64 0,I64 0,I64 0,I64 (i64.wrap t),I64 (i64.wrap u)]++vecL .i64 Z0 65 0) fun az=>
 ST az d 3 [I64 r4] fun a0=>
 ST a0 d 4 [I64 r5] fun a1=>
 RunW Tryz.prog (convert 9 24 (.string r6)) a1 fun a2 a3=>
 ∃v w x,a2=(.slice v w x)∧
 CF 173 #[.slice v w x] a3 fun a4 a5=>∃y z aa,a4=(.tuple #[.agg #[I64 y,.int .u64 z],.bool aa])∧
 AL a5 [I64 0,.int .u64 0] 58 fun ao a6=>
 ST a6 ao 0 [I64 y,.int .u64 z] fun g=>
 IF (!aa) (
 ST g b 0 ([I64 0,I64 0,.int .u64 0,I64 0,I64 0,I64 0,I64 0]++vecL .i64 Z0 65 0) fun ap=>
 ∃ab ac ad ae af ag ah ai,q01 ap b 0 ([I64 ab,I64 ac,.int .u64 ad,I64 ae,I64 af,I64 ag,I64 ah]++vecL .i64 ai 65 0)∧
 K (.tuple #[.agg ⟨[I64 ab,I64 ac,.int .u64 ad,I64 ae,I64 af,I64 ag,I64 ah]++vecL .i64 ai 65 0⟩,I64 10]) ap) (
 ∃aj ak,q01 g ao 0 [I64 aj,.int .u64 ak]∧
 ST g d 1 [I64 aj,.int .u64 ak] fun a7=>
 ∃(f:Int→Heap→Prop) (ax:Int→Heap→Nat),f 0 a7∧
 ∀al am,f al am→q37.l1 K b aq ar d f ax al am))
def q37.l3 (K:KT)(b:Nat)(c:Option Addr)(n:Nat)(r4 r5:Int)(r6:ByteArray)(r7:Int)(ag:(Option Addr)→Nat→Nat→Int→Heap→Prop)(o:(Option Addr)→Nat→Nat→Int→Heap→Nat)(d:Option Addr)(e p:Nat)(a:Int)(f:Heap):Prop:=
 IF (decide (a < r7)) (
 CF 114 #[.pointer c] f fun ai aj=>∃q,ai=(.int .u64 q)∧
 CF 114 #[.pointer c] aj fun ak al=>∃r,ak=(.int .u64 r)∧
 AL al [.int .u64 q,.int .u64 r] 280 fun am an=>
 RunW Tryz.prog (Builtin.append_ #[279,279] 279 #[.slice d e p,.slice (some ⟨am,0,none⟩) 1 1]) an fun ao ae=>
 ∃i j k,ao=(.slice i j k)∧
 ag i j k (i64.wrap (a+1)) ae∧o i j k (i64.wrap (a+1)) ae < o d e p a f) (
 CF 50 #[.pointer c] f fun ap m=>∃l,ap=(I64 l)∧
 IF (!decide (l=0)) (
 ST m b 0 ([I64 0,I64 0,.int .u64 0,I64 0,I64 0,I64 0,I64 0]++vecL .i64 Z0 65 0) fun af=>
 ∃s t u v w x y z,q01 af b 0 ([I64 s,I64 t,.int .u64 u,I64 v,I64 w,I64 x,I64 y]++vecL .i64 z 65 0)∧
 K (.tuple #[.agg ⟨[I64 s,I64 t,.int .u64 u,I64 v,I64 w,I64 x,I64 y]++vecL .i64 z 65 0⟩,I64 l]) af) (
 ∃c0 aa ab,q01 m n 0 [.int .u64 c0,.int .u64 aa,.int .u64 ab]∧
 ∃(g:Int→Heap→Prop) (ah:Int→Heap→Nat),g 0 m∧
 ∀ac ad,g ac ad→q37.l2 K b n r4 r5 r6 d e c0 aa ab g ah ac ad))
def q37.code (j:Option Addr)(k l:Nat)(H:Heap)(K:KT):Prop:=
 AL H ([I64 0,I64 0,.int .u64 0,I64 0,I64 0,I64 0,I64 0]++vecL .i64 Z0 65 0) 62 fun n o=>
 CF 39 #[.slice j k l] o fun p q=>∃a,p=(.pointer a)∧
 CF 114 #[.pointer a] q fun r s=>∃r1,r=(.int .u64 r1)∧
 CF 114 #[.pointer a] s fun t u=>∃r2,t=(.int .u64 r2)∧
 CF 114 #[.pointer a] u fun v w=>∃r3,v=(.int .u64 r3)∧
 AL w [.int .u64 0,.int .u64 0,.int .u64 0] 278 fun i x=>
 ST x i 0 [.int .u64 r1,.int .u64 r2,.int .u64 r3] fun y=>
 CF 101 #[.pointer a] y fun z aa=>∃r4,z=(I64 r4)∧
 CF 101 #[.pointer a] aa fun ab ac=>∃r5,ab=(I64 r5)∧
 CF 110 #[.pointer a,I64 16] ac fun ad ae=>∃r6,ad=(.string r6)∧
 CF 103 #[.pointer a,I64 65] ae fun af ag=>∃r7,af=(I64 r7)∧
 ∃(b:(Option Addr)→Nat→Nat→Int→Heap→Prop) (m:(Option Addr)→Nat→Nat→Int→Heap→Nat),b none 0 0 0 ag∧
 ∀(c:Option Addr) (d:Nat) (e:Nat) (f:Int),∀g:Heap,b c d e f g→q37.l3 K n a i r4 r5 r6 r7 b m c d e f g
theorem q37.call {a b c H K:_}(hK:q37.code a b c H K):CF 113 ⟨[.slice a b c]⟩ H K:=
 cE Tryz.func113 (.r (.r (.r (.r (.r (.r (.seq (.r (.blk (.loop [(9,.one (.slice)),(35,.one (.int .i64))] (.r (.seq (.cond .no .no) (.seq (.blk .reg) .reg)))))) (.seq (.r (.r (.cond (.r .no) .no))) (.seq (.r (.blk (.loop [(53,.one (.int .i64))] (.r (.seq (.cond .no .no) (.seq (.blk (.r (.r (.cond (.r .no) .no)))) .reg)))))) (.r (.r (.r (.seq (.r (.cond (.r .no) .no)) (.r (.seq (.r (.blk (.loop [(87,.one (.int .i64))] (.r (.seq (.cond .no .no) (.seq (.blk (.r (.seq (.r (.cond (.r .no) .no)) (.seq (.r (.cond (.r .no) .no)) .reg)))) .reg)))))) (.seq (.r (.cond (.r .no) .no)) (.r .no))))))))))))))))) hK
open Go.Nm
def qe1.l1 (K:KT)(d:Nat)(q:Int→Heap→Prop)(e:Int→Heap→Nat)(a:Int)(b:Heap):Prop:=
 ∃r f s,q00 b d 1=some (.slice r f s)∧
 IF (decide (a < (f:Int))) (
 ∃j g t,q00 b d 1=some (.slice j g t)∧
 ((0:Int)≤a∧a < (g:Int))∧∃m n:Nat,(j=some ⟨m,n,none⟩)∧
 ∃c,q00 b m (n+a.toNat*2)=some (.string c)∧
 ∃k i u,(((decide (300 < (c.size:Int)))=false)→q00 b d 1=some (.slice k i u))∧
 (((decide (300 < (c.size:Int)))=false)→((0:Int)≤a∧a < (i:Int)))∧∃o p:Nat,(((decide (300 < (c.size:Int)))=false)→(k=some ⟨o,p,none⟩))∧
 ∃l,(((decide (300 < (c.size:Int)))=false)→q00 b o (p+a.toNat*2+1)=some (.string l))∧
 IF ((decide (300 < (c.size:Int))) || (decide (300 < (l.size:Int)))) (
 K (.bool true) b) (
 q (i64.wrap (a+1)) b∧e (i64.wrap (a+1)) b < e a b)) (
 K (.bool false) b)
def qe1.code (i:ByteArray)(j:Option Addr)(k l:Nat)(H:Heap)(K:KT):Prop:=
 AL H [.string i,.slice j k l] 93 fun d a=>
 ∃n b o,q00 a d 1=some (.slice n b o)∧
 ∃e,(((decide (100 < (b:Int)))=false)→q00 a d 0=some (.string e))∧
 IF ((decide (100 < (b:Int))) || (decide (300 < (e.size:Int)))) (
 K (.bool true) a) (
 ∃(c:Int→Heap→Prop) (m:Int→Heap→Nat),c 0 a∧
 ∀f g,c f g→qe1.l1 K d c m f g)
theorem qe1.call {a b c d H K:_}(hK:qe1.code a b c d H K):CF 99 ⟨[.agg #[.string a,.slice b c d]]⟩ H K:=
 cE Tryz.func99 (.r (.seq (.r (.cond (.r .no) .no)) (.seq (.r (.blk (.loop [(3,.one (.int .i64))] (.seq (.r (.cond .no .no)) (.seq (.blk (.r (.cond (.r .no) .no))) .reg))))) (.r .no)))) hK
def q8c.l1 (K:KT)(d:Nat)(p:Int→Heap→Prop)(e:Int→Heap→Nat)(a:Int)(b:Heap):Prop:=
 ∃q f r,q00 b d 10=some (.slice q f r)∧
 IF (decide (a < (f:Int))) (
 ∃i g s,q00 b d 10=some (.slice i g s)∧
 ((0:Int)≤a∧a < (g:Int))∧∃n o:Nat,(i=some ⟨n,o,none⟩)∧
 ∃c0 j k l,q01 b n (o+a.toNat*4+2) [.string c0,.slice j k l]∧
 CF 99 #[.agg #[.string c0,.slice j k l]] b fun t c=>∃m,t=(.bool m)∧
 IF m (
 K (.bool true) c) (
 p (i64.wrap (a+1)) c∧e (i64.wrap (a+1)) c < e a b)) (
 K (.bool false) b)
def q8c.r2 (K:KT)(e:Nat)(f:Bool)(b:Heap):Prop:=
 IF f (
 K (.bool true) b) (
 ∃(a:Int→Heap→Prop) (g:Int→Heap→Nat),a 0 b∧
 ∀c d,a c d→q8c.l1 K e a g c d)
def q8c.code (m n o f3 p q r s t u:Int)(v:Option Addr)(w x:Nat)(y:ByteArray)(z:Option Addr)(aa ab:Nat)(ac:Option Addr)(ad ae:Nat)(H:Heap)(K:KT):Prop:=
 AL H [I64 m,I64 n,I64 o,I64 f3,I64 p,I64 q,I64 r,I64 s,I64 t,I64 u,.slice v w x,.string y,.slice z aa ab,.slice ac ad ae] 104 fun d b=>
 ∀e:Bool→Heap→Prop,(∀f g,q8c.r2 K d f g→e f g)→
 ∃af a ag,q00 b d 10=some (.slice af a ag)∧
 ∃ah c ai,(((decide (100 < (a:Int)))=false)→q00 b d 13=some (.slice ah c ai))∧
 ∃i j k l,((((decide (100 < (a:Int))) || (decide (5000 < (c:Int))))=false)→q01 b d 11 [.string i,.slice j k l])∧
 ((((decide (100 < (a:Int))) || (decide (5000 < (c:Int))))=false)→
 CF 99 #[.agg #[.string i,.slice j k l]] b fun aj ak=>∃r1,aj=(.bool r1)∧
 e r1 ak)∧
 (¬(((decide (100 < (a:Int))) || (decide (5000 < (c:Int))))=false)→
 e true b)
theorem q8c.call {a b c d e f g i j k l m n o p q s t u v H K:_}(hK:q8c.code a b c d e f g i j k l m n o p q s t u v H K):CF 36 ⟨[.agg #[I64 a,I64 b,I64 c,I64 d,I64 e,I64 f,I64 g,I64 i,I64 j,I64 k,.slice l m n,.string o,.slice p q s,.slice t u v]]⟩ H K:=
 cE Tryz.func36 (.r (.seq (.seq (.regJ [(18,.one (.bool))]) (.cond (.r .no) .no)) (.seq (.r (.blk (.loop [(3,.one (.int .i64))] (.seq (.r (.cond .no .no)) (.seq (.blk (.r (.cond (.r .no) .no))) .reg))))) (.r .no)))) hK
def Small.code  (H:Heap)(K:KT):Prop:=
 AL H [I64 0,I64 0,I64 0,I64 0,I64 0,I64 0,I64 0,I64 0,I64 0] 23 fun k m=>
 ST m k 0 [I64 10,I64 0,I64 1000,I64 100,I64 100,I64 2,I64 4,I64 40,I64 8] fun l=>
 ∃a b c d e f g i j,q01 l k 0 [I64 a,I64 b,I64 c,I64 d,I64 e,I64 f,I64 g,I64 i,I64 j]∧
 K (.agg #[I64 a,I64 b,I64 c,I64 d,I64 e,I64 f,I64 g,I64 i,I64 j]) l
theorem Small.call { H K:_}(hK:Small.code  H K):CF 30 ⟨[]⟩ H K:=
 cE Tryz.func30 (.r (.r .no)) hK
def qtx.l1 (m:Option Addr)(d:Nat)(K:KT)(n:Int→Heap→Prop)(e:Int→Heap→Nat)(a:Int)(b:Heap):Prop:=
 IF (decide (a < (d:Int))) (
 ((0:Int)≤a∧a < (d:Int))∧∃k l:Nat,(m=some ⟨k,l,none⟩)∧
 ∃f g i,q00 b k (l+a.toNat*12+11)=some (.slice f g i)∧
 CF 36 #[(.agg #[I64 0,I64 0,I64 0,I64 0,I64 0,I64 0,I64 0,I64 0,I64 0,I64 0,.slice f g i,(.string (⟨#[]⟩:ByteArray)),.slice none 0 0,.slice none 0 0])] b fun o c=>∃j,o=(.bool j)∧
 IF j (
 K (.bool true) c) (
 n (i64.wrap (a+1)) c∧e (i64.wrap (a+1)) c < e a b)) (
 K (.bool false) b)
def qtx.code (c0 j k l m n o p q:Int)(r:Option Addr)(a t:Nat)(H:Heap)(K:KT):Prop:=
 AL H [I64 c0,I64 j,I64 k,I64 l,I64 m,I64 n,I64 o,I64 p,I64 q] 23 fun i b=>
 ∃d,(((decide (80 < (a:Int)))=false)→q00 b i 7=some (I64 d))∧
 ∃e,((((decide (80 < (a:Int)))=false)∧(decide (200 < d))=true)→q00 b i 7=some (I64 e))∧
 IF ((decide (80 < (a:Int))) || ((decide (200 < d)) && (decide (e≤1024)))) (
 K (.bool true) b) (
 ∃(c:Int→Heap→Prop) (s:Int→Heap→Nat),c 0 b∧
 ∀f g,c f g→qtx.l1 r a K c s f g)
theorem qtx.call {a b c d e f g i j k l m H K:_}(hK:qtx.code a b c d e f g i j k l m H K):CF 10 ⟨[.agg #[I64 a,I64 b,I64 c,I64 d,I64 e,I64 f,I64 g,I64 i,I64 j],.slice k l m]⟩ H K:=
 cE Tryz.func10 (.r (.seq (.r (.cond (.r .no) .no)) (.seq (.r (.blk (.loop [(5,.one (.int .i64))] (.seq (.r (.cond .no .no)) (.seq (.blk (.r (.cond (.r .no) .no))) .reg))))) (.r .no)))) hK
def qot.y1 (e:Nat)(a:Heap)(b:Loop)(i:List Value)(c:Heap)(K_:Value→Heap→Prop):Prop:=
 ∃j k l m n o p q r s,i=[.agg #[I64 j,.string k],.agg ⟨[I64 l,I64 m,.int .u64 n,I64 o,I64 p,I64 q,I64 r]++vecL .i64 s 65 0⟩]∧
 c[a.size+1]?=some (.loop b)∧
 c[a.size+1]?=some (.loop b)∧
 ∀d,d=q0q c (a.size+1) { b with state:=.busy }→
 ∃f,q00 d e 0=some (I64 f)∧
 ST d e 0 [I64 (i64.wrap (f+1))] fun g=>
 g[a.size+1]?=some (.loop { b with state:=.busy })∧K_ (.bool true) (q0q g (a.size+1) b)
def qot.r2 (K:KT)(a:Heap)(c:Bool)(b:Heap):Prop:=
 b[a.size]?=some (.deferred (some []))∧
 K (.bool c) (b.setIfInBounds a.size (.deferred none))
def qot.code  (H:Heap)(K:KT):Prop:=
 CF 30 #[] H fun j5 j6=>∃a9 r1 r2 r3 r4 r5 r6 r7 ba,j5=(.agg #[I64 a9,I64 r1,I64 r2,I64 r3,I64 r4,I64 r5,I64 r6,I64 r7,I64 ba])∧
 CF 16 #[.agg #[I64 a9,I64 r1,I64 r2,I64 r3,I64 r4,I64 r5,I64 r6,I64 r7,I64 ba]] j6 fun j7 i5=>∃a bb,j7=(.tuple #[.pointer a,I64 bb])∧
 IF ((!decide (bb=0)) || a.isNone) (
 K (.bool false) i5) (
 CF 17 #[.pointer a,.agg #[I64 2,I64 3,I64 0,I64 1,I64 0,I64 0,I64 0,I64 0,I64 0,I64 0,I64 0,.slice none 0 0]] i5 fun j8 j9=>∃ar ad jc bc,j8=(.tuple #[.slice ar ad jc,I64 bc])∧
 CF 17 #[.pointer a,.agg #[I64 3,I64 3,I64 1,I64 0,I64 0,I64 0,I64 0,I64 0,I64 0,I64 0,I64 2,.slice none 0 0]] j9 fun ka kb=>∃jd je jf bd,ka=(.tuple #[.slice jd je jf,I64 bd])∧
 AL kb [(.string (⟨#[]⟩:ByteArray)),.slice none 0 0] 93 fun i6 kc=>
 ST kc i6 0 [(.string (⟨#[109]⟩:ByteArray)),.slice none 0 0] fun i7=>
 ∃c0 be bf bg,q01 i7 i6 0 [.string c0,.slice be bf bg]∧
 AL i7 [I64 5,I64 7,.string c0,.slice be bf bg] 95 fun kd ke=>
 AL ke [I64 0,I64 0,I64 0,I64 0,I64 0,I64 0,I64 0,I64 0,I64 0,I64 0,I64 0,.slice none 0 0] 46 fun a1 kf=>
 ST kf a1 0 [I64 4,I64 3,I64 1,I64 0,I64 0,I64 0,I64 9,I64 0,I64 0,I64 0,I64 0,.slice (some ⟨kd,0,none⟩) 1 1] fun i8=>
 ∃bh bi bj bk bl bm bn bo bp bq br bs bt bu,q01 i8 a1 0 [I64 bh,I64 bi,I64 bj,I64 bk,I64 bl,I64 bm,I64 bn,I64 bo,I64 bp,I64 bq,I64 br,.slice bs bt bu]∧
 CF 17 #[.pointer a,.agg #[I64 bh,I64 bi,I64 bj,I64 bk,I64 bl,I64 bm,I64 bn,I64 bo,I64 bp,I64 bq,I64 br,.slice bs bt bu]] i8 fun kg kh=>∃y r jg bv,kg=(.tuple #[.slice y r jg,I64 bv])∧
 CF 26 #[.pointer a,I64 3] kh fun ki kj=>∃bw bx bz b0 b1 b2 b3 b4 b5 b6 b7 b8,ki=(.tuple #[.agg #[I64 bw,I64 bx,I64 bz,I64 b0,.bool b1,.bool b2,.bool b3,I64 b4,I64 b5,I64 b6,I64 b7],.bool b8])∧
 AL kj [I64 0,I64 0,I64 0,I64 0,.bool false,.bool false,.bool false,I64 0,I64 0,I64 0,I64 0] 82 fun a2 kk=>
 ST kk a2 0 [I64 bw,I64 bx,I64 bz,I64 b0,.bool b1,.bool b2,.bool b3,I64 b4,I64 b5,I64 b6,I64 b7] fun kl=>
 CF 31 #[.pointer a,I64 3,I64 5] kl fun km kn=>∃b9 ca cb,km=(.tuple #[.agg #[I64 b9,I64 ca],I64 cb])∧
 AL kn [I64 0,I64 0] 53 fun a3 ko=>
 ST ko a3 0 [I64 b9,I64 ca] fun kp=>
 CF 17 #[.pointer a,.agg #[I64 6,I64 0,I64 0,I64 0,I64 0,I64 0,I64 200,I64 0,I64 0,I64 0,I64 0,.slice none 0 0]] kp fun kq kr=>∃ae x jh cc,kq=(.tuple #[.slice ae x jh,I64 cc])∧
 CF 30 #[] kr fun ks kt=>∃cd ce cf cg ch ci cj ck cl,ks=(.agg #[I64 cd,I64 ce,I64 cf,I64 cg,I64 ch,I64 ci,I64 cj,I64 ck,I64 cl])∧
 CF 15 #[.pointer a] kt fun ku kv=>∃cm cn co,ku=(.slice cm cn co)∧
 CF 11 #[.agg #[I64 cd,I64 ce,I64 cf,I64 cg,I64 ch,I64 ci,I64 cj,I64 ck,I64 cl],.slice cm cn co] kv fun kw i9=>∃d cp,kw=(.tuple #[.pointer d,I64 cp])∧
 ∃cq cr cs ct cu cv cw cx cy cz c1 c2 c3 c4,q01 i9 a1 0 [I64 cq,I64 cr,I64 cs,I64 ct,I64 cu,I64 cv,I64 cw,I64 cx,I64 cy,I64 cz,I64 c1,.slice c2 c3 c4]∧
 CF 33 #[.agg #[I64 cq,I64 cr,I64 cs,I64 ct,I64 cu,I64 cv,I64 cw,I64 cx,I64 cy,I64 cz,I64 c1,.slice c2 c3 c4]] i9 fun kx ky=>∃c5 c6 c7,kx=(.slice c5 c6 c7)∧
 CF 32 #[.slice c5 c6 c7] ky fun kz k0=>∃c8 c9 da db dc dd de df dg dh di dj dk dl dm,kz=(.tuple #[.agg #[I64 c8,I64 c9,I64 da,I64 db,I64 dc,I64 dd,I64 de,I64 df,I64 dg,I64 dh,I64 di,.slice dj dk dl],I64 dm])∧
 AL k0 [I64 0,I64 0,I64 0,I64 0,I64 0,I64 0,I64 0,I64 0,I64 0,I64 0,I64 0,.slice none 0 0] 46 fun a4 k1=>
 ST k1 a4 0 [I64 c8,I64 c9,I64 da,I64 db,I64 dc,I64 dd,I64 de,I64 df,I64 dg,I64 dh,I64 di,.slice dj dk dl] fun k2=>
 CF 17 #[.pointer a,.agg #[I64 6,I64 0,I64 0,I64 0,I64 0,I64 0,I64 199,I64 0,I64 0,I64 0,I64 0,.slice none 0 0]] k2 fun k3 k4=>∃ji jj jk dp,k3=(.tuple #[.slice ji jj jk,I64 dp])∧
 CF 17 #[.pointer a,.agg #[I64 7,I64 0,I64 0,I64 0,I64 1,I64 0,I64 0,I64 0,I64 0,I64 0,I64 0,.slice none 0 0]] k4 fun k5 k6=>∃jl jm jn dq,k5=(.tuple #[.slice jl jm jn,I64 dq])∧
 CF 17 #[.pointer a,.agg #[I64 1,I64 0,I64 0,I64 0,I64 0,I64 0,I64 0,I64 0,I64 0,I64 0,I64 0,.slice none 0 0]] k6 fun k7 ja=>∃jo jp jq dr,k7=(.tuple #[.slice jo jp jq,I64 dr])∧
 IF (((((!decide ((ad:Int)=1)) || (!decide ((r:Int)=2))) || (!decide ((x:Int)=1))) || d.isNone) || (!decide (bc=0))) (
 K (.bool false) ja) (
 AL ja [I64 0] 3 fun aj k8=>
 ST k8 aj 0 [I64 0] fun k9=>
 CF 21 #[.pointer d] k9 fun la m=>∃au ds,la=(.func (.func au) #[] ⟨ds⟩)∧
 memN au X.calls=true∧
 ∀w:Loop,w.state=.ready→w.pending=none→
 (∀(a5:List Value) (a6:Heap) (K_:Value→Heap→Prop),qot.y1 aj m w a5 a6 K_→q33 Tryz.prog (m.size+1) a5 a6 K_)→
 CF au ⟨(.func (.yield (m.size+1)) #[] #[])::ds⟩ ((m.push (.deferred (some []))).push (.loop w)) fun me jb=>∃(a7:LoopState) (ak:Option Code),a7≠.busy∧jb[m.size+1]?=some (.loop { w with state:=a7,pending:=ak })∧
 ∀b,b=q0q jb (m.size+1) { w with state:=.exhausted,pending:=ak }→
 ak=none∧
 ∀c:Bool→Heap→Prop,(∀dt du,qot.r2 K m dt du→c dt du)→
 let zz0:=(decide (bd=0)) && (decide (bv=0)); let zz1:=zz0 && b8; let zz2:=zz1 && (decide (cb=0)); let zz3:=zz2 && (decide (cc=0)); let zz4:=zz3 && (decide (cp=0)); let zz5:=zz4 && (decide (dm=0)); let zz6:=zz5 && (decide (dp=11)); let zz7:=zz6 && (decide (dq=0)); let zz8:=zz7 && (decide (dr=0));
 ((zz8=true)→((0:Int)≤0∧0 < (ad:Int)))∧∃il im:Nat,((zz8=true)→(ar=some ⟨il,im,none⟩))∧
 ∃dv,((zz8=true)→q00 b il (im+0*87)=some (I64 dv))∧
 let zz9:=zz8 && (decide (dv=1));
 ((zz9=true)→((0:Int)≤0∧0 < (ad:Int)))∧∃io ip:Nat,((zz9=true)→(ar=some ⟨io,ip,none⟩))∧
 ∃dw,((zz9=true)→q00 b io (ip+0*87+2)=some (I64 dw))∧
 let zz10:=zz9 && (decide (dw=1));
 ((zz10=true)→((0:Int)≤0∧0 < (r:Int)))∧∃iq ir:Nat,((zz10=true)→(y=some ⟨iq,ir,none⟩))∧
 ∃dx,((zz10=true)→q00 b iq (ir+0*87)=some (I64 dx))∧
 let zz11:=zz10 && (decide (dx=3));
 ((zz11=true)→((0:Int)≤0∧0 < (r:Int)))∧∃is it:Nat,((zz11=true)→(y=some ⟨is,it,none⟩))∧
 ∃dz d0,((zz11=true)→q01 b is (it+0*87+9) [I64 dz,I64 d0])∧
 ∃iu:Bool,((zz11=true)→q7d Tryz.prog .eql 51 (.agg #[I64 dz,I64 d0]) (.agg #[I64 0,I64 0]) iu)∧
 let zz12:=zz11 && iu;
 ((zz12=true)→((0:Int)≤1∧1 < (r:Int)))∧∃iv iw:Nat,((zz12=true)→(y=some ⟨iv,iw,none⟩))∧
 ∃d1,((zz12=true)→q00 b iv (iw+1*87)=some (I64 d1))∧
 let zz13:=zz12 && (decide (d1=2));
 ((zz13=true)→((0:Int)≤1∧1 < (r:Int)))∧∃ix iy:Nat,((zz13=true)→(y=some ⟨ix,iy,none⟩))∧
 ∃d2,((zz13=true)→q00 b ix (iy+1*87+4)=some (I64 d2))∧
 let zz14:=zz13 && (decide (d2=1));
 ((zz14=true)→((0:Int)≤0∧0 < (x:Int)))∧∃iz i0:Nat,((zz14=true)→(ae=some ⟨iz,i0,none⟩))∧
 ∃d3,((zz14=true)→q00 b iz (i0+0*87)=some (I64 d3))∧
 let zz15:=zz14 && (decide (d3=4));
 ((zz15=true)→((0:Int)≤0∧0 < (x:Int)))∧∃i1 i2:Nat,((zz15=true)→(ae=some ⟨i1,i2,none⟩))∧
 ∃d4,((zz15=true)→q00 b i1 (i2+0*87+13+2+4)=some (I64 d4))∧
 let zz16:=zz15 && (decide (d4=7));
 ((zz16=true)→((0:Int)≤0∧0 < (x:Int)))∧∃i3 i4:Nat,((zz16=true)→(ae=some ⟨i3,i4,none⟩))∧
 ∃d5,((zz16=true)→q00 b i3 (i4+0*87+13+2+5)=some (I64 d5))∧
 let zz17:=zz16 && (decide (d5=1));
 ∃d6,((zz17=true)→q00 b a2 3=some (I64 d6))∧
 let zz18:=zz17 && (decide (d6=4));
 ∃d7,((zz18=true)→q00 b a2 7=some (I64 d7))∧
 let zz19:=zz18 && (decide (d7=5));
 ∃d8,((zz19=true)→q00 b a3 0=some (I64 d8))∧
 let zz20:=zz19 && (decide (d8=4));
 ∃d9,((zz20=true)→q00 b a3 1=some (I64 d9))∧
 let zz21:=zz20 && (decide (d9=8));
 ∃jr a8 js,((zz21=true)→q00 b a4 11=some (.slice jr a8 js))∧
 let zz22:=zz21 && (decide ((a8:Int)=1));
 ∃ea eb ec ed ee ef eg eh ei ej ek el em en,((zz22=true)→q01 b a4 0 [I64 ea,I64 eb,I64 ec,I64 ed,I64 ee,I64 ef,I64 eg,I64 eh,I64 ei,I64 ej,I64 ek,.slice el em en])∧
 ((zz22=true)→
 CF 34 #[.agg #[I64 ea,I64 eb,I64 ec,I64 ed,I64 ee,I64 ef,I64 eg,I64 eh,I64 ei,I64 ej,I64 ek,.slice el em en]] b fun lb e=>∃av,lb=(.bool av)∧
 ∃eo,((av=true)→q00 e aj 0=some (I64 eo))∧
 let zz23:=av && (decide (eo=0));
 ((zz23=true)→
 CF 27 #[.pointer d] e fun lc f=>∃jt al ju,lc=(.slice jt al ju)∧
 (((decide ((al:Int)=1))=true)→
 CF 27 #[.pointer a] f fun ld n=>∃jv am jw,ld=(.slice jv am jw)∧
 ∃ep,(((decide ((am:Int)=0))=true)→CQ 28 #[.pointer a] n (I64 ep))∧
 let zz24:=(decide ((am:Int)=0)) && (decide (ep=1));
 ∃eq,((zz24=true)→CQ 35 #[.pointer a] n (I64 eq))∧
 let zz25:=zz24 && (decide (eq=1));
 ∃er,((zz25=true)→CQ 24 #[.pointer a] n (I64 er))∧
 let zz26:=zz25 && (decide (er=200));
 ∃es,((zz26=true)→CQ 23 #[.pointer a] n (I64 es))∧
 let zz27:=zz26 && (decide (es=100));
 ∃et,((zz27=true)→CQ 35 #[.pointer d] n (I64 et))∧
 let zz28:=zz27 && (decide (et=0));
 ((zz28=true)→
 CF 30 #[] n fun le lf=>∃eu ev ew ex ey ez e1 e2 e3,le=(.agg #[I64 eu,I64 ev,I64 ew,I64 ex,I64 ey,I64 ez,I64 e1,I64 e2,I64 e3])∧
 CF 13 #[.agg #[I64 eu,I64 ev,I64 ew,I64 ex,I64 ey,I64 ez,I64 e1,I64 e2,I64 e3]] lf fun lg lh=>∃e4,lg=(.bool e4)∧
 c e4 lh)∧
 (¬(zz28=true)→
 c false n))∧
 (¬((decide ((al:Int)=1))=true)→
 ∃i,((false=true)→CQ 28 #[.pointer a] f (I64 i))∧
 ∃s,(((false && (decide (i=1)))=true)→CQ 35 #[.pointer a] f (I64 s))∧
 ∃z,((((false && (decide (i=1))) && (decide (s=1)))=true)→CQ 24 #[.pointer a] f (I64 z))∧
 ∃af,(((((false && (decide (i=1))) && (decide (s=1))) && (decide (z=200)))=true)→CQ 23 #[.pointer a] f (I64 af))∧
 ∃aw,((((((false && (decide (i=1))) && (decide (s=1))) && (decide (z=200))) && (decide (af=100)))=true)→CQ 35 #[.pointer d] f (I64 aw))∧
 (((((((false && (decide (i=1))) && (decide (s=1))) && (decide (z=200))) && (decide (af=100))) && (decide (aw=0)))=true)→
 CF 30 #[] f fun li lj=>∃e5 e6 e7 e8 e9 fa fb fc fd,li=(.agg #[I64 e5,I64 e6,I64 e7,I64 e8,I64 e9,I64 fa,I64 fb,I64 fc,I64 fd])∧
 CF 13 #[.agg #[I64 e5,I64 e6,I64 e7,I64 e8,I64 e9,I64 fa,I64 fb,I64 fc,I64 fd]] lj fun lk ll=>∃fe,lk=(.bool fe)∧
 c fe ll)∧
 (¬((((((false && (decide (i=1))) && (decide (s=1))) && (decide (z=200))) && (decide (af=100))) && (decide (aw=0)))=true)→
 c false f)))∧
 (¬(zz23=true)→
 ((false=true)→
 CF 27 #[.pointer a] e fun lm o=>∃jx an jy,lm=(.slice jx an jy)∧
 ∃ff,(((decide ((an:Int)=0))=true)→CQ 28 #[.pointer a] o (I64 ff))∧
 let zz29:=(decide ((an:Int)=0)) && (decide (ff=1));
 ∃fg,((zz29=true)→CQ 35 #[.pointer a] o (I64 fg))∧
 let zz30:=zz29 && (decide (fg=1));
 ∃fh,((zz30=true)→CQ 24 #[.pointer a] o (I64 fh))∧
 let zz31:=zz30 && (decide (fh=200));
 ∃fi,((zz31=true)→CQ 23 #[.pointer a] o (I64 fi))∧
 let zz32:=zz31 && (decide (fi=100));
 ∃fj,((zz32=true)→CQ 35 #[.pointer d] o (I64 fj))∧
 let zz33:=zz32 && (decide (fj=0));
 ((zz33=true)→
 CF 30 #[] o fun ln lo=>∃fk fl fm fn fo fp fq fr fs,ln=(.agg #[I64 fk,I64 fl,I64 fm,I64 fn,I64 fo,I64 fp,I64 fq,I64 fr,I64 fs])∧
 CF 13 #[.agg #[I64 fk,I64 fl,I64 fm,I64 fn,I64 fo,I64 fp,I64 fq,I64 fr,I64 fs]] lo fun lp lq=>∃ft,lp=(.bool ft)∧
 c ft lq)∧
 (¬(zz33=true)→
 c false o))∧
 (¬(false=true)→
 ∃j,((false=true)→CQ 28 #[.pointer a] e (I64 j))∧
 ∃t,(((false && (decide (j=1)))=true)→CQ 35 #[.pointer a] e (I64 t))∧
 ∃aa,((((false && (decide (j=1))) && (decide (t=1)))=true)→CQ 24 #[.pointer a] e (I64 aa))∧
 ∃ag,(((((false && (decide (j=1))) && (decide (t=1))) && (decide (aa=200)))=true)→CQ 23 #[.pointer a] e (I64 ag))∧
 ∃ax,((((((false && (decide (j=1))) && (decide (t=1))) && (decide (aa=200))) && (decide (ag=100)))=true)→CQ 35 #[.pointer d] e (I64 ax))∧
 (((((((false && (decide (j=1))) && (decide (t=1))) && (decide (aa=200))) && (decide (ag=100))) && (decide (ax=0)))=true)→
 CF 30 #[] e fun lr ls=>∃fu fv fw fx fy fz f0 f1 f2,lr=(.agg #[I64 fu,I64 fv,I64 fw,I64 fx,I64 fy,I64 fz,I64 f0,I64 f1,I64 f2])∧
 CF 13 #[.agg #[I64 fu,I64 fv,I64 fw,I64 fx,I64 fy,I64 fz,I64 f0,I64 f1,I64 f2]] ls fun lt lu=>∃f4,lt=(.bool f4)∧
 c f4 lu)∧
 (¬((((((false && (decide (j=1))) && (decide (t=1))) && (decide (aa=200))) && (decide (ag=100))) && (decide (ax=0)))=true)→
 c false e))))∧
 (¬(zz22=true)→
 ∃ay,((false=true)→q00 b aj 0=some (I64 ay))∧
 (((false && (decide (ay=0)))=true)→
 CF 27 #[.pointer d] b fun lv g=>∃jz ao j0,lv=(.slice jz ao j0)∧
 (((decide ((ao:Int)=1))=true)→
 CF 27 #[.pointer a] g fun lw p=>∃j1 ap j2,lw=(.slice j1 ap j2)∧
 ∃f5,(((decide ((ap:Int)=0))=true)→CQ 28 #[.pointer a] p (I64 f5))∧
 let zz34:=(decide ((ap:Int)=0)) && (decide (f5=1));
 ∃f6,((zz34=true)→CQ 35 #[.pointer a] p (I64 f6))∧
 let zz35:=zz34 && (decide (f6=1));
 ∃f7,((zz35=true)→CQ 24 #[.pointer a] p (I64 f7))∧
 let zz36:=zz35 && (decide (f7=200));
 ∃f8,((zz36=true)→CQ 23 #[.pointer a] p (I64 f8))∧
 let zz37:=zz36 && (decide (f8=100));
 ∃f9,((zz37=true)→CQ 35 #[.pointer d] p (I64 f9))∧
 let zz38:=zz37 && (decide (f9=0));
 ((zz38=true)→
 CF 30 #[] p fun lx ly=>∃ga gb gc gd ge gf gg gh gi,lx=(.agg #[I64 ga,I64 gb,I64 gc,I64 gd,I64 ge,I64 gf,I64 gg,I64 gh,I64 gi])∧
 CF 13 #[.agg #[I64 ga,I64 gb,I64 gc,I64 gd,I64 ge,I64 gf,I64 gg,I64 gh,I64 gi]] ly fun lz l0=>∃gj,lz=(.bool gj)∧
 c gj l0)∧
 (¬(zz38=true)→
 c false p))∧
 (¬((decide ((ao:Int)=1))=true)→
 ∃k,((false=true)→CQ 28 #[.pointer a] g (I64 k))∧
 ∃u,(((false && (decide (k=1)))=true)→CQ 35 #[.pointer a] g (I64 u))∧
 ∃ab,((((false && (decide (k=1))) && (decide (u=1)))=true)→CQ 24 #[.pointer a] g (I64 ab))∧
 ∃ah,(((((false && (decide (k=1))) && (decide (u=1))) && (decide (ab=200)))=true)→CQ 23 #[.pointer a] g (I64 ah))∧
 ∃az,((((((false && (decide (k=1))) && (decide (u=1))) && (decide (ab=200))) && (decide (ah=100)))=true)→CQ 35 #[.pointer d] g (I64 az))∧
 (((((((false && (decide (k=1))) && (decide (u=1))) && (decide (ab=200))) && (decide (ah=100))) && (decide (az=0)))=true)→
 CF 30 #[] g fun l1 l2=>∃gk gl gm gn go gp gq gr gs,l1=(.agg #[I64 gk,I64 gl,I64 gm,I64 gn,I64 go,I64 gp,I64 gq,I64 gr,I64 gs])∧
 CF 13 #[.agg #[I64 gk,I64 gl,I64 gm,I64 gn,I64 go,I64 gp,I64 gq,I64 gr,I64 gs]] l2 fun l3 l4=>∃gu,l3=(.bool gu)∧
 c gu l4)∧
 (¬((((((false && (decide (k=1))) && (decide (u=1))) && (decide (ab=200))) && (decide (ah=100))) && (decide (az=0)))=true)→
 c false g)))∧
 (¬((false && (decide (ay=0)))=true)→
 ((false=true)→
 CF 27 #[.pointer a] b fun l5 q=>∃j3 aq j4,l5=(.slice j3 aq j4)∧
 ∃gv,(((decide ((aq:Int)=0))=true)→CQ 28 #[.pointer a] q (I64 gv))∧
 let zz39:=(decide ((aq:Int)=0)) && (decide (gv=1));
 ∃gw,((zz39=true)→CQ 35 #[.pointer a] q (I64 gw))∧
 let zz40:=zz39 && (decide (gw=1));
 ∃gx,((zz40=true)→CQ 24 #[.pointer a] q (I64 gx))∧
 let zz41:=zz40 && (decide (gx=200));
 ∃gy,((zz41=true)→CQ 23 #[.pointer a] q (I64 gy))∧
 let zz42:=zz41 && (decide (gy=100));
 ∃gz,((zz42=true)→CQ 35 #[.pointer d] q (I64 gz))∧
 let zz43:=zz42 && (decide (gz=0));
 ((zz43=true)→
 CF 30 #[] q fun l6 l7=>∃g0 g1 g2 g3 g4 g5 g6 g7 g8,l6=(.agg #[I64 g0,I64 g1,I64 g2,I64 g3,I64 g4,I64 g5,I64 g6,I64 g7,I64 g8])∧
 CF 13 #[.agg #[I64 g0,I64 g1,I64 g2,I64 g3,I64 g4,I64 g5,I64 g6,I64 g7,I64 g8]] l7 fun l8 l9=>∃g9,l8=(.bool g9)∧
 c g9 l9)∧
 (¬(zz43=true)→
 c false q))∧
 (¬(false=true)→
 ∃l,((false=true)→CQ 28 #[.pointer a] b (I64 l))∧
 ∃v,(((false && (decide (l=1)))=true)→CQ 35 #[.pointer a] b (I64 v))∧
 ∃ac,((((false && (decide (l=1))) && (decide (v=1)))=true)→CQ 24 #[.pointer a] b (I64 ac))∧
 ∃ai,(((((false && (decide (l=1))) && (decide (v=1))) && (decide (ac=200)))=true)→CQ 23 #[.pointer a] b (I64 ai))∧
 ∃a0,((((((false && (decide (l=1))) && (decide (v=1))) && (decide (ac=200))) && (decide (ai=100)))=true)→CQ 35 #[.pointer d] b (I64 a0))∧
 (((((((false && (decide (l=1))) && (decide (v=1))) && (decide (ac=200))) && (decide (ai=100))) && (decide (a0=0)))=true)→
 CF 30 #[] b fun ma mb=>∃ia ib ic id ie ig ih ii ij,ma=(.agg #[I64 ia,I64 ib,I64 ic,I64 id,I64 ie,I64 ig,I64 ih,I64 ii,I64 ij])∧
 CF 13 #[.agg #[I64 ia,I64 ib,I64 ic,I64 id,I64 ie,I64 ig,I64 ih,I64 ii,I64 ij]] mb fun mc md=>∃ik,mc=(.bool ik)∧
 c ik md)∧
 (¬((((((false && (decide (l=1))) && (decide (v=1))) && (decide (ac=200))) && (decide (ai=100))) && (decide (a0=0)))=true)→
 c false b))))))
theorem qot.call { H K:_}(hK:qot.code  H K):CF 9 ⟨[]⟩ H K:=
 cE Tryz.func9 (.r (.r (.seq (.r (.cond (.r .no) .no)) (.r (.r (.r (.r (.r (.r (.r (.r (.r (.r (.r (.r (.r (.seq (.r (.cond (.r .no) .no)) (.r (.seq (.r (.blk (.rng [.agg [.int .i64,.str],.agg [.int .i64,.int .i64,.int .u64,.int .i64,.int .i64,.int .i64,.int .i64,.vec .i64 65]] [none] .no (.blk .reg)))) (.seq (.regJ [(0,.one (.bool))]) .no)))))))))))))))))))) hK
def CoreParses.r1 (K:KT)(a:Bool)(b:Heap):Prop:=
 K (.bool a) b
def CoreParses.r2 (K:KT)(a:Bool)(b:Heap):Prop:=
 K (.bool a) b
def CoreParses.r3 (K:KT)(a:Bool)(b:Heap):Prop:=
 K (.bool a) b
def CoreParses.r4 (d:Option Addr)(e f:Nat)(K:KT)(b:Nat)(bf:Bool)(g:Heap):Prop:=
 IF bf (
 K (.bool true) g) (
 ∃i j k l m n o p q,q01 g b 0 [I64 i,I64 j,I64 k,I64 l,I64 m,I64 n,I64 o,I64 p,I64 q]∧
 CF 12 #[.slice d e f] g fun bg bb=>∃t u v,bg=(.slice t u v)∧
 q01 bb b 0 [I64 i,I64 j,I64 k,I64 l,I64 m,I64 n,I64 o,I64 p,I64 q]∧
 CF 11 #[.agg #[I64 i,I64 j,I64 k,I64 l,I64 m,I64 n,I64 o,I64 p,I64 q],.slice t u v] bb fun bh a=>∃r1 r2,bh=(.tuple #[.pointer r1,I64 r2])∧
 IF (decide (r2=0)) (
 ∀c:Bool→Heap→Prop,(∀w x,CoreParses.r1 K w x→c w x)→
 ∃y z aa ab ac ad ae af ag,(((!r1.isNone)=true)→q01 a b 0 [I64 y,I64 z,I64 aa,I64 ab,I64 ac,I64 ad,I64 ae,I64 af,I64 ag])∧
 (((!r1.isNone)=true)→
 CF 13 #[.agg #[I64 y,I64 z,I64 aa,I64 ab,I64 ac,I64 ad,I64 ae,I64 af,I64 ag]] a fun bi bc=>∃r3,bi=(.bool r3)∧
 ((r3=true)→
 CF 15 #[.pointer r1] bc fun bj bd=>∃ah ai aj,bj=(.slice ah ai aj)∧
 ∃r4,CQ 14 #[.slice ah ai aj,.slice d e f] bd (.bool r4)∧
 c r4 bd)∧
 (¬(r3=true)→
 c false bc))∧
 (¬((!r1.isNone)=true)→
 ((false=true)→
 CF 15 #[.pointer r1] a fun bk be=>∃ak al am,bk=(.slice ak al am)∧
 ∃r5,CQ 14 #[.slice ak al am,.slice d e f] be (.bool r5)∧
 c r5 be)∧
 (¬(false=true)→
 c false a))) (
 IF (decide (r2=11)) (
 ∀r:Bool→Heap→Prop,(∀an ao,CoreParses.r2 K an ao→r an ao)→
 ∃ap aq ar au av aw ax ay az,((r1.isNone=true)→q01 a b 0 [I64 ap,I64 aq,I64 ar,I64 au,I64 av,I64 aw,I64 ax,I64 ay,I64 az])∧
 ((r1.isNone=true)→
 CF 13 #[.agg #[I64 ap,I64 aq,I64 ar,I64 au,I64 av,I64 aw,I64 ax,I64 ay,I64 az]] a fun bl bm=>∃r6,bl=(.bool r6)∧
 r (!r6) bm)∧
 (¬(r1.isNone=true)→
 r false a)) (
 ∀s:Bool→Heap→Prop,(∀a0 a1,CoreParses.r3 K a0 a1→s a0 a1)→
 ∃a2 a3 a4 a5 a6 a7 a8 a9 ba,((r1.isNone=true)→q01 a b 0 [I64 a2,I64 a3,I64 a4,I64 a5,I64 a6,I64 a7,I64 a8,I64 a9,I64 ba])∧
 ((r1.isNone=true)→
 CF 13 #[.agg #[I64 a2,I64 a3,I64 a4,I64 a5,I64 a6,I64 a7,I64 a8,I64 a9,I64 ba]] a fun bn bo=>∃r7,bn=(.bool r7)∧
 s (r7 && (decide (r2=10))) bo)∧
 (¬(r1.isNone=true)→
 s (false && (decide (r2=10))) a))))
def CoreParses.code (c0 s t u v w x y z:Int)(aa:Option Addr)(a ab:Nat)(H:Heap)(K:KT):Prop:=
 AL H [I64 c0,I64 s,I64 t,I64 u,I64 v,I64 w,I64 x,I64 y,I64 z] 23 fun r ac=>
 CF 9 #[] ac fun ad b=>∃d,ad=(.bool d)∧
 IF (!d) (
 K (.bool false) b) (
 ∀c:Bool→Heap→Prop,(∀e f,CoreParses.r4 aa a ab K r e f→c e f)→
 ∃g i j k l m n o p,(((decide (5000 < (a:Int)))=false)→q01 b r 0 [I64 g,I64 i,I64 j,I64 k,I64 l,I64 m,I64 n,I64 o,I64 p])∧
 (((decide (5000 < (a:Int)))=false)→
 CF 10 #[.agg #[I64 g,I64 i,I64 j,I64 k,I64 l,I64 m,I64 n,I64 o,I64 p],.slice none 0 0] b fun ae af=>∃q,ae=(.bool q)∧
 c q af)∧
 (¬((decide (5000 < (a:Int)))=false)→
 c true b))
theorem CoreParses.call {a b c d e f g i j k l m H K:_}(hK:CoreParses.code a b c d e f g i j k l m H K):CF 3 ⟨[.agg #[I64 a,I64 b,I64 c,I64 d,I64 e,I64 f,I64 g,I64 i,I64 j],.slice k l m]⟩ H K:=
 cE Tryz.func3 (.r (.seq (.r (.cond (.r .no) .no)) (.seq (.seq (.regJ [(15,.one (.bool))]) (.cond (.r .no) .no)) (.r (.seq (.r (.blk (.r (.cond (.seq (.regJ [(4,.one (.bool))]) .no) (.r (.cond (.seq (.regJ [(4,.one (.bool))]) .no) .no)))))) (.seq (.regJ [(4,.one (.bool))]) .no)))))) hK
end Go.Proofs.YtfmkddccnjidmaaGreatDoor
namespace Go.Nm
def zabs (v:Int):Nat:=v.natAbs
def addS (a b:Int):Int × Int:=if wf64 (a+b) then (a+b,0) else (0,12)
def signS (n:Nat)(neg:Bool):Int × Int:=
 if neg then (if 9223372036854775808 < n then (0,12) else (-(n:Int),0)) else (if 9223372036854775807 < n then (0,12) else ((n:Int),0))
def qhg (a b c:Int)(up:Bool):Int × Int:=
 if c < 1 then (0,11) else
 if c.toNat≤zabs a*zabs b / 18446744073709551616 then (0,12) else
 let q:=zabs a*zabs b / c.toNat
 if 9223372036854775808 < q then (0,12) else
 let neg:=!(decide (a < 0) == decide (b < 0))
 signS (if !decide (zabs a*zabs b % c.toNat=0) && !(neg == up) then q+1 else q) neg
abbrev q3o (rho:Int):Prop:=0≤rho∧rho≤100000
def lowS (x rho:Int):Int × Int:=
 if x < -4611686018427387904∨4611686018427387904 < x∨¬q3o rho then (0,11) else
 if 0 < x then (if 1 < (qhg (x - 1) 1000000 (1000000+rho) true).1 then (qhg (x - 1) 1000000 (1000000+rho) true).1 else 1,(qhg (x - 1) 1000000 (1000000+rho) true).2)
 else (i64.wrap (0 - (qhg (1 - x) 1000000 (1000000 - rho) false).1),(qhg (1 - x) 1000000 (1000000 - rho) false).2)
def qr1 (x rho:Int):Int × Int:=
 if x < -4611686018427387904∨4611686018427387904 < x then (0,11) else (i64.wrap (0 - (lowS (-x) rho).1),(lowS (-x) rho).2)
theorem highS_wf (x rho:Int):wf64 (qr1 x rho).1:=by
 unfold qr1
 split
 ·simp [wf64]
 ·exact qtm _
structure Gp where
 lo:Int
 hi:Int
deriving DecidableEq
def Gp.z:Gp:=⟨0,0⟩
abbrev encG (g:Gp):List Value:=[.int .i64 g.lo,.int .i64 g.hi]
abbrev aggG (g:Gp):Value:=.agg #[.int .i64 g.lo,.int .i64 g.hi]
abbrev Gp.ok (g:Gp):Prop:=g.lo≤g.hi
def meet2 (a b:Gp):Gp:=⟨if b.lo > a.lo then b.lo else a.lo,if b.hi < a.hi then b.hi else a.hi⟩
def qk4:Gp→List Gp→Gp × Int
 | s,[]=>if s.ok then (s,0) else (Gp.z,13)
 | s,g::r=>if g.ok then qk4 (meet2 s g) r else (Gp.z,10)
def qgp (l:List Gp):Gp × Int:=qk4 ⟨-9223372036854775808,9223372036854775807⟩ l
theorem qik (g:Gp):(encG g).length=2:=rfl
def qwa (g:Gp):Int:=if g.ok then u64.wrap ((u64.wrap g.hi) - (u64.wrap g.lo)) else 0
def midS (g:Gp):Int:=if g.ok then i64.wrap ((q0d .and .i64 g.lo g.hi)+(Int.fdiv (q0d .xor .i64 g.lo g.hi) (2 ^ (min (Int.toNat 1) (i64.bits))))) else 0
end Go.Nm
namespace Go.Proofs.YtfmkddccnjidmaaGreatDoor
open Go.Nm
section
variable {F L:List Assn} {H:Heap} {K:Value→Heap→Prop}
theorem qwb {a b:Int}(ha:wf64 a)(hb:wf64 b):q1o Tryz.prog 187 #[I64 a,I64 b] H (.tuple #[I64 (addS a b).1,I64 (addS a b).2]):=by
 refine qia.call ?_;unfold qia.code;rw [add_over ha hb];unfold addS;refine⟨fun hc=>?_,fun hc=>?_⟩
 ·have:¬wf64 (a+b):=by simpa using hc
  rw [if_neg this];exact⟨rfl,rfl⟩
 ·have:wf64 (a+b):=by simpa using hc
  rw [if_pos this];have e:i64.wrap (a+b)=a+b:=w64 (by unfold wf64 at this; omega) (by unfold wf64 at this; omega);rw [e];exact⟨rfl,rfl⟩
theorem qr2 {v:Int}(h:wf64 v):q1o Tryz.prog 256 #[I64 v] H (.int .u64 (zabs v:Nat)):=by
 refine qf8.call ?_;unfold qf8.code zabs;unfold wf64 at h;refine⟨fun hc=>⟨?_,rfl⟩,fun hc=>⟨?_,rfl⟩⟩
 ·simp only [z52] at hc;rw [u64e,u64e];congr 1;omega
 ·simp only [z58] at hc;rw [u64e];congr 1;omega
theorem qk5 {n:Nat}{neg:Bool}(h:n < 18446744073709551616):q1o Tryz.prog 258 #[.int .u64 (n:Nat),.bool neg] H (.tuple #[I64 (signS n neg).1,I64 (signS n neg).2]):=by
 refine qa6.call ?_;unfold qa6.code signS
 cases neg
 ·refine⟨fun hf=>by simp at hf,fun _=>⟨fun hc=>?_,fun hc=>?_⟩⟩
  ·have:9223372036854775807 < n:=by simp only [z52] at hc; omega
   rw [if_neg Bool.false_ne_true,if_pos this];exact⟨rfl,rfl⟩
  ·have:¬9223372036854775807 < n:=by simp only [z58] at hc; omega
   rw [if_neg Bool.false_ne_true,if_neg this,w64 (by omega) (by omega)];exact⟨rfl,rfl⟩
 ·refine⟨fun _=>⟨fun hc=>?_,fun hc=>?_⟩,fun hf=>by simp at hf⟩
  ·have:9223372036854775808 < n:=by simp only [z52] at hc; omega
   rw [if_pos rfl,if_pos this];exact⟨rfl,rfl⟩
  ·have:¬9223372036854775808 < n:=by simp only [z58] at hc; omega
   rw [if_pos rfl,if_neg this];have e:i64.wrap (u64.wrap (0 - (n:Int)))=-(n:Int):=by rw [u64e,i64e]; omega
   rw [e];exact⟨rfl,rfl⟩
theorem qym {x y:Nat}(hx:x < 18446744073709551616)(hy:y < 18446744073709551616) :
  q1o Tryz.prog 255 #[.int .u64 (x:Nat),.int .u64 (y:Nat)] H (.tuple #[.int .u64 ((x*y / 18446744073709551616:Nat):Int),.int .u64 ((x*y % 18446744073709551616:Nat):Int)]):=by
 refine qcv.call ?_;unfold qcv.code;refine⟨by decide,by decide,by decide,by decide,by decide,?_⟩;have hm:=mul64_arith (x:Int) (y:Int) (by omega) (by omega) (by omega) (by omega);have key:∀a:Nat,u64.wrap (a:Int)=((a % 18446744073709551616:Nat):Int):=u64m;have km:∀a:Nat,q0d .and .u64 ((a % 18446744073709551616:Nat):Int) 4294967295=((a % 18446744073709551616 % 4294967296:Nat):Int):=fun a=>qqs (z6j _ (by decide))
 rw [qqs hx,qqs hy];simp only [qw2,mulNN,addNN,key,km,and_true];congr 4
theorem qt5 {s:ByteArray}{i:Nat}(h:i < s.size):bAt s i=((s[i]'h).toNat:Int):=by
 unfold bAt;rw [Array.getElem?_eq_getElem (show i < s.data.size from h)];rfl
theorem qty {n:Nat}(h:n < 18446744073709551616):bitLen n≤64:=by
 unfold bitLen
 split
 ·omega
 ·rename_i h0;have:=(Nat.log2_lt h0).2 (show n < 2 ^ 64 from h);omega
theorem qmi {x:Nat}(h:x < 18446744073709551616):q1o Tryz.prog 152 #[.int .u64 (x:Nat)] H (I64 (bitLen x:Nat)):=by
 refine q16.call ?_;unfold q16.code;have last:∀(y:Nat) (n:Nat),y < 256→bitLen x=n+bitLen y→n≤64→q16.r1 (fun u H'=>u=I64 (bitLen x:Nat)∧H'=H) (y:Int) (n:Int) H:=by
  intro y n hy hb hn;unfold q16.r1;have ey:u8.wrap (y:Int)=(y:Int):=u8w (by omega) (by omega);have hl:=bitLen_le8 y hy;rw [ey];refine⟨⟨by omega,?_⟩,?_,rfl⟩
  ·show (y:Int) < 256;omega
  ·rw [show bAt _ ((y:Int)).toNat=((bitLen y:Nat):Int) from (qt5 (i:=y) (by show y < 256; omega)).trans (congrArg Nat.cast (len8tab_get y (by show y < 256; omega)))];rw [w64 (x:=((bitLen y:Nat):Int)) (by omega) (by omega),w64 (by omega) (by omega),hb];congr 1
 have s2:∀(y:Nat) (n:Nat),y < 65536→bitLen x=n+bitLen y→n≤56→q16.r2 (fun u H'=>u=I64 (bitLen x:Nat)∧H'=H) (y:Int) (n:Int) H:=by
  intro y n hy hb hn;unfold q16.r2;refine fun Jn hJ=>⟨fun hc=>⟨by decide,?_⟩,fun hc=>hJ _ _ _ (last y n (by simp only [z58] at hc; omega) hb (by omega))⟩
  simp only [z52] at hc;have e:Int.fdiv (y:Int) (2 ^ (min (Int.toNat 8) (u64.bits)))=((y / 256:Nat):Int):=qye y 8;have ew:i64.wrap ((n:Int)+8)=((n+8:Nat):Int):=by rw [w64 (by omega) (by omega)]; omega
  rw [e,ew];refine hJ _ _ _ (last (y / 256) (n+8) (by omega) ?_ (by omega));have:=bitLen_shift y 8 (by simp only [Nat.reducePow]; omega);rw [hb,this];simp only [Nat.reducePow]; omega
 have s3:∀(y:Nat) (n:Nat),y < 4294967296→bitLen x=n+bitLen y→n≤32→q16.r3 (fun u H'=>u=I64 (bitLen x:Nat)∧H'=H) (y:Int) (n:Int) H:=by
  intro y n hy hb hn;unfold q16.r3;refine fun Jn hJ=>⟨fun hc=>⟨by decide,?_⟩,fun hc=>hJ _ _ _ (s2 y n (by simp only [z58] at hc; omega) hb (by omega))⟩
  simp only [z52] at hc;have e:Int.fdiv (y:Int) (2 ^ (min (Int.toNat 16) (u64.bits)))=((y / 65536:Nat):Int):=qye y 16;have ew:i64.wrap ((n:Int)+16)=((n+16:Nat):Int):=by rw [w64 (by omega) (by omega)]; omega
  rw [e,ew];refine hJ _ _ _ (s2 (y / 65536) (n+16) (by omega) ?_ (by omega));have:=bitLen_shift y 16 (by simp only [Nat.reducePow]; omega);rw [hb,this];simp only [Nat.reducePow]; omega
 refine fun Jn hJ=>⟨fun hc=>⟨by decide,?_⟩,fun hc=>hJ _ _ _ (s3 x 0 (by simp only [z58] at hc; omega) (by omega) (by omega))⟩
 simp only [z52] at hc;rw [qw2];refine hJ _ _ _ (s3 (x / 4294967296) 32 (by omega) ?_ (by omega));have:=bitLen_shift x 32 (by simp only [Nat.reducePow]; omega);rw [this]
theorem qyn {x:Nat}(h:x < 18446744073709551616):q1o Tryz.prog 279 #[.int .u64 (x:Nat)] H (I64 ((64 - bitLen x:Nat):Int)):=by
 refine q3d.call ?_;unfold q3d.code;have hl:=qty h;refine⟨_,qmi h,?_,rfl⟩;rw [w64 (by omega) (by omega)];congr 1;omega
end
end Go.Proofs.YtfmkddccnjidmaaGreatDoor
namespace Go.Nm
theorem tdivN (a b:Nat):Int.tdiv (a:Int) (b:Int)=((a / b:Nat):Int):=rfl
theorem tmodN (a b:Nat):Int.tmod (a:Int) (b:Int)=((a % b:Nat):Int):=rfl
theorem w_un {u u1 Q Y:Nat}(h:Q=(u*4294967296+u1) / Y)(hY:0 < Y)(hY2:Y < 18446744073709551616) :
  u64.wrap ((u64.wrap ((u64.wrap ((u:Int)*4294967296))+(u1:Int))) - (u64.wrap ((Q:Int)*(Y:Int))))=(((u*4294967296+u1) % Y:Nat):Int):=by
 have h1:=z7i (u*4294967296+u1) Y;have h2:=z6j (u*4294967296+u1) hY;rw [← h] at h1;rw [mulNN];generalize Q*Y=p at *;generalize (u*4294967296+u1) % Y=m at *;rw [u64e,u64e,u64e,u64e];omega
theorem norm_y {y:Nat}(h0:0 < y)(h:y < 18446744073709551616):64 - bitLen y < 64∧y*2 ^ (64 - bitLen y) < 18446744073709551616∧9223372036854775808≤y*2 ^ (64 - bitLen y):=by
 obtain⟨h1,h2⟩:=bitLen_spec y;have h2:=h2 (by omega);have hl:bitLen y≤64:=by
  unfold bitLen
  split
  ·omega
  ·rename_i h0;have:=(Nat.log2_lt h0).2 (show y < 2 ^ 64 from h);omega
 have hp:0 < bitLen y:=by unfold bitLen; rw [if_neg (by omega)]; omega
 refine⟨by omega,?_,?_⟩
 ·calc y*2 ^ (64 - bitLen y) < 2 ^ bitLen y*2 ^ (64 - bitLen y):=(Nat.mul_lt_mul_right (z6y _)).2 h1
   _=18446744073709551616:=by rw [← z6f,show bitLen y+(64 - bitLen y)=64 by omega]
 ·calc 9223372036854775808=2 ^ (bitLen y - 1)*2 ^ (64 - bitLen y):=by rw [← z6f,show bitLen y - 1+(64 - bitLen y)=63 by omega]
   _≤y*2 ^ (64 - bitLen y):=z6c _ h2
theorem norm_u {hi lo y s:Nat}(hs:s < 64)(hy:hi < y)(hl:lo < 18446744073709551616)(h:y*2 ^ s < 18446744073709551616) :
  hi*2 ^ s+lo / 2 ^ (64 - s) < y*2 ^ s∧q0d .or .u64 (u64.wrap ((hi:Int)*2 ^ s)) (Int.fdiv (lo:Int) (2 ^ (64 - s)))=((hi*2 ^ s+lo / 2 ^ (64 - s):Nat):Int):=by
 have h1:lo / 2 ^ (64 - s) < 2 ^ s:=by
  rw [z78 (z6y _),← z6f,show s+(64 - s)=64 by omega];exact hl
 have h2:hi*2 ^ s+2 ^ s≤y*2 ^ s:=by
  rw [← Nat.succ_mul];exact z6c _ hy
 refine⟨by omega,?_⟩;have e1:(hi:Int)*2 ^ s=((hi*2 ^ s:Nat):Int):=by rw [z7h]; simp
 have h3:hi*2 ^ s < 18446744073709551616:=Nat.lt_of_lt_of_le (Nat.lt_add_of_pos_right (z6y s)) (z5f h2 (Nat.le_of_lt h));rw [e1,qye,u64n h3,or64 h3 (Nat.lt_of_le_of_lt (Nat.div_le_self _ _) hl)];congr 1;rw [Nat.mul_comm hi,← Nat.two_pow_add_eq_or_of_lt h1]
end Go.Nm
namespace Go.Proofs.YtfmkddccnjidmaaGreatDoor
open Go.Nm
section
variable {F L:List Assn} {H:Heap} {K:Value→Heap→Prop}
set_option maxHeartbeats 2000000 in
theorem div_core {hi lo y s Y u v:Nat}(hs:s < 64)(hn1:Y < 18446744073709551616)(hn2:9223372036854775808≤Y)(hu:u < Y)(hun:v < 18446744073709551616)(hi0:hi≠0)
  (ey:u64.wrap ((y:Int)*2 ^ s)=(Y:Int)) (elo:u64.wrap ((lo:Int)*2 ^ s)=(v:Int))
  (eu:q0d .or .u64 (u64.wrap ((hi:Int)*2 ^ s)) (Int.fdiv (lo:Int) (2 ^ (64 - s)))=(u:Int))
  (hz:q1o Tryz.prog 279 #[.int .u64 (y:Nat)] H (I64 (s:Nat)))
  (k:K (.tuple #[.int .u64 (((u*18446744073709551616+v) / Y:Nat):Int),.int .u64 ((((u*18446744073709551616+v) % Y) / 2 ^ s:Nat):Int)]) H) :
  q0e.r5 (hi:Int) (lo:Int) (y:Int) K H:=by
  unfold q0e.r5;refine⟨fun hc=>?_,fun hc=>?_⟩
  ·exfalso; simp only [z52] at hc; omega
  refine⟨_,hz,?_⟩;have es:u64.wrap (s:Int)=(s:Int):=u64n (by omega);have em:min (Int.toNat (s:Int)) u64.bits=s:=by rw [z5a]; exact z74 (by simp only [IntKind.bits]; omega)
  have e64s:u64.wrap (64 - (s:Int))=((64 - s:Nat):Int):=by rw [u64e]; omega
  have em2:min (Int.toNat ((64 - s:Nat):Int)) u64.bits=64 - s:=by rw [z5a]; exact z74 (by simp only [IntKind.bits]; omega)
  obtain⟨u1,hu1⟩:∃u1,v / 4294967296=u1:=⟨_,rfl⟩;obtain⟨u0,hu0⟩:∃u0,v % 4294967296=u0:=⟨_,rfl⟩;obtain⟨y1,hy1⟩:∃y1,Y / 4294967296=y1:=⟨_,rfl⟩;obtain⟨y0,hy0⟩:∃y0,Y % 4294967296=y0:=⟨_,rfl⟩;have eY:y1*4294967296+y0=Y:=by omega
  have ev:u1*4294967296+u0=v:=by have ev:=z7i v 4294967296; rw [hu1,hu0] at ev; exact ev
  have b1:2147483648≤y1:=by omega
  have b1':y1 < 4294967296:=by omega
  have b0:y0 < 4294967296:=by omega
  have c1:u1 < 4294967296:=by omega
  have c0:u0 < 4294967296:=by omega
  have hj:=kn_join (u:=u) (u1:=u1) (u0:=u0) (y:=Y) (by omega);have e0:u*18446744073709551616+v=(u*4294967296+u1)*4294967296+u0:=by rw [← ev,z5x,Nat.mul_assoc,z6e]
  rw [e0,hj.1] at k;rw [hj.2] at k;have fy:Int.fdiv (Y:Int) (2 ^ (min (Int.toNat 32) (u64.bits)))=(y1:Int):=by rw [qw2,hy1]
  have fv:Int.fdiv (v:Int) (2 ^ (min (Int.toNat 32) (u64.bits)))=(u1:Int):=by rw [qw2,hu1]
  have my:q0d .and .u64 (Y:Int) 4294967295=(y0:Int):=by rw [qqs (by omega),hy0]
  have mv:q0d .and .u64 (v:Int) 4294967295=(u0:Int):=by rw [qqs (by omega),hu0]
  have cond:∀q r w1:Nat,r < 4294967296→w1 < 4294967296→((decide (4294967296≤(q:Int)) || decide (u64.wrap ((u64.wrap (4294967296*(r:Int)))+(w1:Int)) < u64.wrap ((q:Int)*(y0:Int))))=true↔(4294967296≤q∨4294967296*r+w1 < q*y0)):=by
   intro q r w1 hr hw;have ea:u64.wrap ((u64.wrap (4294967296*(r:Int)))+(w1:Int))=((4294967296*r+w1:Nat):Int):=by rw [u64e,u64e]; omega
   rw [ea,mulNN,u64m];simp only [z5h,z52]
   by_cases hB:4294967296≤q
   ·constructor
    ·intro _; exact .inl hB
    ·intro _; exact .inl (by omega)
   ·have:q*y0≤4294967296*4294967295:=Nat.mul_le_mul (by omega) (by omega);rw [z6u (by omega)]
    constructor
    ·rintro (h|h)
     ·omega
     ·exact .inr (by omega)
    ·rintro (h|h)
     ·omega
     ·exact .inr (by omega)
  have eup:∀q r:Nat,1≤q→r < 4294967296→q≤4294967297→u64.wrap ((q:Int) - 1)=((q - 1:Nat):Int)∧u64.wrap ((r:Int)+(y1:Int))=((r+y1:Nat):Int):=by
   intro q r h1 h2 h3;exact⟨by rw [u64e]; omega,by rw [u64e]; omega⟩
  have ini:∀U:Nat,U < Y→u64.wrap ((U / y1:Nat):Int)=((U / y1:Nat):Int)∧u64.wrap ((U:Int) - u64.wrap (((U / y1:Nat):Int)*(y1:Int)))=((U % y1:Nat):Int)∧U % y1 < 4294967296:=by
   intro U hU;have h1:=z7i U y1;have h2:=Nat.div_le_self U y1;have h3:=z6j U (show 0 < y1 by omega);refine⟨u64n (by omega),?_,by omega⟩;rw [mulNN];generalize U / y1*y1=p at *;rw [u64e,u64e];omega
  obtain⟨Q1,hQ1⟩:∃Q1,(u*4294967296+u1) / Y=Q1:=⟨_,rfl⟩;obtain⟨R1,hR1⟩:∃R1,(u*4294967296+u1) % Y=R1:=⟨_,rfl⟩;have hR1Y:R1 < Y:=by rw [← hR1]; exact z6j _ (by omega)
  have w1:=w_un (u:=u) (u1:=u1) (Q:=Q1) (Y:=Y) hQ1.symm (by omega) (by omega);rw [hR1] at w1;obtain⟨Q0,hQ0⟩:∃Q0,(R1*4294967296+u0) / Y=Q0:=⟨_,rfl⟩;have w0:=w_un (u:=R1) (u1:=u0) (Q:=Q0) (Y:=Y) hQ0.symm (by omega) (by omega);have q1lt:Q1 < 4294967296:=by rw [← hQ1]; exact kn_lt hu c1
  have q0lt:Q0 < 4294967296:=by rw [← hQ0]; exact kn_lt hR1Y c0
  rw [hQ1,hR1,hQ0] at k;have last:q0e.r1 (hi:Int) lo y K (s:Int) (Q1:Int) (Q0:Int) H:=by
   unfold q0e.r1;simp only [es,em,e64s,em2,ey,elo,eu,fy,fv,my,mv,w1,w0];refine⟨by omega,?_⟩;have ea:u64.wrap ((u64.wrap ((Q1:Int)*4294967296))+(Q0:Int))=((Q1*4294967296+Q0:Nat):Int):=by rw [u64e,u64e]; omega
   rw [ea,qye];exact k
  have mid:q0e.r3 (hi:Int) lo y K (s:Int) (Q1:Int) H:=by
   unfold q0e.r3;simp only [es,em,e64s,em2,ey,elo,eu,fy,fv,my,mv,w1,tdivN];obtain⟨i1,i2,i3⟩:=ini R1 hR1Y;obtain⟨n1,n2,n3,n4⟩:=z1o (y0:=y0) (u:=R1) (u1:=u0) b1 b0 (by omega) c0;rw [eY,hQ0] at n3;refine⟨by omega,fun Jn3 hJ3=>⟨fun rhat q0 H'=>H'=H∧∃q r:Nat,q0=q∧rhat=r∧q*y1+r=R1∧r < 4294967296∧Q0≤q∧q≤4294967297,fun rhat _ _=>4294967296 - rhat.toNat,?_,?_⟩⟩
   ·rw [i1,i2];exact⟨rfl,_,_,rfl,rfl,n1,i3,n3,n4⟩
   rintro rhat q0 H' ⟨rfl,q,r,rfl,rfl,hq,hr,hle,hq2⟩;unfold q0e.l2;simp only [es,em,e64s,em2,ey,elo,eu,fy,fv,my,mv];refine⟨fun hc=>?_,fun hc=>?_⟩
   ·have hc:=(cond q r u0 hr c0).1 hc;have hd:=kn_dec (y0:=y0) (u:=R1) (u1:=u0) b1 (by omega) c0 hq hc;rw [eY,hQ0] at hd;obtain⟨p,rfl⟩:∃p,q=p+1:=⟨q - 1,by omega⟩;have hq':p*y1+(r+y1)=R1:=by rw [Nat.succ_mul] at hq; omega
    obtain⟨e1,e2⟩:=eup (p+1) r (by omega) hr hq2;rw [Nat.add_sub_cancel] at e1 hd;rw [e1,e2];refine⟨fun hc2=>?_,fun hc2=>⟨⟨trivial,_,_,rfl,rfl,hq',?_,hd.2,by omega⟩,?_⟩⟩
    ·simp only [z52] at hc2;have hx:=qw7 (y0:=y0) (u:=R1) (u1:=u0) b1 b0 hq' (by rw [eY,hQ0]; exact hd.2) (by omega) (by omega);rw [eY,hQ0] at hx;rw [hx];exact hJ3 _ _ last
    ·simp only [z58] at hc2; omega
    ·simp only [z5a]; omega
   ·have hc:¬(4294967296≤q∨4294967296*r+u0 < q*y0):=fun hh=>by rw [(cond q r u0 hr c0).2 hh] at hc; cases hc
    have hx:=qw6 (y0:=y0) (u:=R1) (u1:=u0) b1 hq (by rw [eY,hQ0]; exact hle) (by omega);rw [eY,hQ0] at hx;rw [hx];exact hJ3 _ _ last
  simp only [es,em,e64s,em2,ey,elo,eu,fy,fv,my,mv,tdivN];obtain⟨i1,i2,i3⟩:=ini u hu;obtain⟨n1,n2,n3,n4⟩:=z1o (y0:=y0) (u:=u) (u1:=u1) b1 b0 (by omega) c1;rw [eY,hQ1] at n3;refine⟨by omega,by decide,by omega,by omega,by omega,by decide,by omega,fun Jn2 hJ2=>⟨fun q1 rhat H'=>H'=H∧∃q r:Nat,q1=q∧rhat=r∧q*y1+r=u∧r < 4294967296∧Q1≤q∧q≤4294967297,fun _ rhat _=>4294967296 - rhat.toNat,?_,?_⟩⟩
  ·rw [i1,i2];exact⟨rfl,_,_,rfl,rfl,n1,i3,n3,n4⟩
  rintro q1 rhat H' ⟨rfl,q,r,rfl,rfl,hq,hr,hle,hq2⟩;unfold q0e.l4;simp only [es,em,e64s,em2,ey,elo,eu,fy,fv,my,mv];refine⟨fun hc=>?_,fun hc=>?_⟩
  ·have hc:=(cond q r u1 hr c1).1 hc;have hd:=kn_dec (y0:=y0) (u:=u) (u1:=u1) b1 (by omega) c1 hq hc;rw [eY,hQ1] at hd;obtain⟨p,rfl⟩:∃p,q=p+1:=⟨q - 1,by omega⟩;have hq':p*y1+(r+y1)=u:=by rw [Nat.succ_mul] at hq; omega
   obtain⟨e1,e2⟩:=eup (p+1) r (by omega) hr hq2;rw [Nat.add_sub_cancel] at e1 hd;rw [e1,e2];refine⟨fun hc2=>?_,fun hc2=>⟨⟨trivial,_,_,rfl,rfl,hq',?_,hd.2,by omega⟩,?_⟩⟩
   ·simp only [z52] at hc2;have hx:=qw7 (y0:=y0) (u:=u) (u1:=u1) b1 b0 hq' (by rw [eY,hQ1]; exact hd.2) (by omega) (by omega);rw [eY,hQ1] at hx;rw [hx];exact hJ2 _ _ mid
   ·simp only [z58] at hc2; omega
   ·simp only [z5a]; omega
  ·have hc:¬(4294967296≤q∨4294967296*r+u1 < q*y0):=fun hh=>by rw [(cond q r u1 hr c1).2 hh] at hc; cases hc
   have hx:=qw6 (y0:=y0) (u:=u) (u1:=u1) b1 hq (by rw [eY,hQ1]; exact hle) (by omega);rw [eY,hQ1] at hx;rw [hx];exact hJ2 _ _ mid
theorem qyo {hi lo y:Nat}(hy:hi < y)(hl:lo < 18446744073709551616)(hy64:y < 18446744073709551616)
  (k:K (.tuple #[.int .u64 (((hi*18446744073709551616+lo) / y:Nat):Int),.int .u64 (((hi*18446744073709551616+lo) % y:Nat):Int)]) H) :
  CF 257 #[.int .u64 (hi:Nat),.int .u64 (lo:Nat),.int .u64 (y:Nat)] H K:=by
 refine q0e.call ?_;unfold q0e.code;refine fun Jn hJ=>⟨fun hc=>?_,fun _=>hJ _ ?_⟩
 ·exfalso; simp only [z52] at hc; omega
 unfold q0e.r6;refine fun Jn1 hJ1=>⟨fun hc=>?_,fun _=>hJ1 _ ?_⟩
 ·exfalso; simp only [z52] at hc; omega
 by_cases h0:hi=0
 ·subst h0;unfold q0e.r5;refine⟨fun _=>⟨by omega,by omega,?_⟩,fun hc=>?_⟩
  ·rw [tdivN,tmodN,u64n (Nat.lt_of_le_of_lt (Nat.div_le_self _ _) hl)];rw [Nat.zero_mul,z5p] at k;exact k
  ·exfalso; simp at hc
 ·obtain⟨hs,hn1,hn2⟩:=norm_y (y:=y) (by omega) hy64;obtain⟨hu,eu⟩:=norm_u hs hy hl hn1;have hN:=norm_num (hi:=hi) (lo:=lo) (s:=64 - bitLen y) (by omega) hl;refine div_core (v:=lo*2 ^ (64 - bitLen y) % 18446744073709551616) hs hn1 hn2 hu (z6j _ (by decide)) h0 ?_ ?_ eu (qyn hy64) ?_
  ·rw [← u64n hn1,z7h]; simp
  ·rw [← u64m,z7h]; simp
  ·rw [hN,Nat.mul_div_mul_right _ _ (z6y _),Nat.mul_mod_mul_right,Nat.mul_div_cancel _ (z6y _)];exact k
theorem qmj {a b c:Int}{up:Bool}(ha:wf64 a)(hb:wf64 b)(hc0:wf64 c)(k:K (.tuple #[I64 (qhg a b c up).1,I64 (qhg a b c up).2]) H) :
  CF 219 #[I64 a,I64 b,I64 c,.bool up] H K:=by
 refine q58.call ?_;unfold q58.code;unfold qhg at k;have za:zabs a < 18446744073709551616:=by unfold zabs; unfold wf64 at ha; omega
 have zb:zabs b < 18446744073709551616:=by unfold zabs; unfold wf64 at hb; omega
 refine⟨fun hc=>?_,fun hc=>?_⟩
 ·rw [if_pos (by simpa using hc)] at k;exact k
 ·have hc1:¬c < 1:=by simpa using hc
  rw [if_neg hc1] at k;obtain⟨cn,rfl⟩:∃cn:Nat,c=cn:=⟨c.toNat,by omega⟩;have hcn:cn < 18446744073709551616:=by unfold wf64 at hc0; omega
  rw [u64n hcn];rw [z5a] at k;refine⟨_,qr2 ha,_,qr2 hb,_,_,qym za zb,?_⟩;have hP:zabs a*zabs b / 18446744073709551616*18446744073709551616+zabs a*zabs b % 18446744073709551616=zabs a*zabs b:=z7i _ _;have hlo:zabs a*zabs b % 18446744073709551616 < 18446744073709551616:=z6j _ (by decide);generalize zabs a*zabs b / 18446744073709551616=hi at *;generalize zabs a*zabs b % 18446744073709551616=lo at *;generalize zabs a*zabs b=P at *;refine⟨fun hc2=>?_,fun hc2=>?_⟩
  ·rw [if_pos (by simp only [z52] at hc2; omega)] at k;exact k
  ·have hc2:¬cn≤hi:=by simp only [z58] at hc2; omega
   rw [if_neg hc2] at k;refine qyo (by omega) hlo hcn ⟨_,_,rfl,?_⟩;rw [hP];dsimp only at k;refine⟨fun hc3=>?_,fun hc3=>fun Jn hJ=>?_⟩
   ·rw [if_pos (by simp only [z52] at hc3; omega)] at k;exact k
   ·have hc3:¬9223372036854775808 < P / cn:=by simp only [z58] at hc3; omega
    rw [if_neg hc3] at k;have e1:u64.wrap (((P / cn:Nat):Int)+1)=((P / cn+1:Nat):Int):=(show ∀q:Nat,¬9223372036854775808 < q→u64.wrap ((q:Int)+1)=((q+1:Nat):Int) from fun q h=>by rw [u64e]; omega) _ hc3
    have e2:decide (((P % cn:Nat):Int)=0)=decide (P % cn=0):=by
     rw [decide_eq_decide]; omega
    rw [e1,e2];refine⟨fun hc4=>hJ _ _ ?_,fun hc4=>hJ _ _ ?_⟩
    ·rw [if_pos hc4] at k;unfold q58.r1;exact⟨_,_,qk5 (Nat.lt_of_le_of_lt (Nat.succ_le_succ (Nat.le_of_not_lt hc3)) (by decide)),k⟩
    ·rw [hc4,if_neg Bool.false_ne_true] at k;unfold q58.r1;exact⟨_,_,qk5 (Nat.lt_of_le_of_lt (Nat.le_of_not_lt hc3) (by decide)),k⟩
theorem z21 {rho:Int}:q1o Tryz.prog 218 #[I64 rho] H (.bool (decide (q3o rho))):=by
 refine qgm.call ⟨congrArg Value.bool ?_,rfl⟩;rw [z65];simp only [z56,z52,q3o]
theorem qwc {x rho:Int}(hx:wf64 x)(k:K (.tuple #[I64 (lowS x rho).1,I64 (lowS x rho).2]) H):CF 185 #[I64 x,I64 rho] H K:=by
 refine qfb.call ?_;unfold qfb.code;unfold lowS at k;refine⟨_,fun _=>z21,fun hc=>?_,fun hc=>?_⟩
 ·rw [if_pos (by simp only [z5h,z52,z5k,z58] at hc; omega)] at k;exact k
 ·have hr:¬(x < -4611686018427387904∨4611686018427387904 < x∨¬q3o rho):=by
   simp only [z5g,z58,z67,z52] at hc;rintro (h|h|h)
   ·exact hc.1.1 h
   ·exact hc.1.2 h
   ·exact h hc.2
  rw [if_neg hr] at k;have hr2:q3o rho:=by
   rcases Classical.em (q3o rho) with h|h
   ·exact h
   ·exact absurd (.inr (.inr h)) hr
  have hr3:¬x < -4611686018427387904∧¬4611686018427387904 < x:=⟨fun h=>hr (.inl h),fun h=>hr (.inr (.inl h))⟩
  unfold q3o at hr2;refine⟨fun hc2=>?_,fun hc2=>?_⟩
  ·have h0:0 < x:=by simpa using hc2
   rw [if_pos h0] at k;rw [w64 (x:=x - 1) (by omega) (by omega),w64 (x:=1000000+rho) (by omega) (by omega)];exact qmj (by unfold wf64; omega) (by unfold wf64; omega) (by unfold wf64; omega) ⟨_,_,rfl,k⟩
  ·have h0:¬0 < x:=by simpa using hc2
   rw [if_neg h0] at k;rw [w64 (x:=1 - x) (by omega) (by omega),w64 (x:=1000000 - rho) (by omega) (by omega)];exact qmj (by unfold wf64; omega) (by unfold wf64; omega) (by unfold wf64; omega) ⟨_,_,rfl,k⟩
theorem z29 {x rho:Int}(hx:wf64 x)(k:K (.tuple #[I64 (qr1 x rho).1,I64 (qr1 x rho).2]) H):CF 186 #[I64 x,I64 rho] H K:=by
 refine qcy.call ?_;unfold qcy.code;unfold qr1 at k;refine⟨fun hc=>?_,fun hc=>?_⟩
 ·rw [if_pos (by simpa using hc)] at k;exact k
 ·have hr:¬(x < -4611686018427387904∨4611686018427387904 < x):=by simpa using hc
  rw [if_neg hr] at k;have e:i64.wrap (0 - x)=-x:=by rw [w64 (by omega) (by omega)]; omega
  rw [e];exact qwc (by unfold wf64; omega) ⟨_,_,rfl,k⟩
end
end Go.Proofs.YtfmkddccnjidmaaGreatDoor
namespace Go.Nm
structure Gd where
 width:Int
 policy:Int
 most:Int
deriving DecidableEq
abbrev z2a (g:Gd):Value:=.agg #[.int .i64 g.width,.int .i64 g.policy,.int .i64 g.most]
def Gd.ok (g:Gd):Prop:=1≤g.width∧g.width≤1099511627776∧0≤g.policy∧g.policy≤3∧0≤g.most∧g.most≤4611686018427387903
instance (g:Gd):Decidable g.ok:=by unfold Gd.ok; infer_instance
def q2i (g:Gd)(t:Int):Int:=
 if g.ok then (if Int.tmod t g.width < 0 then i64.wrap (i64.wrap (Int.tdiv t g.width) - 1) else i64.wrap (Int.tdiv t g.width)) else 0
def q1t (g:Gd)(x:Gp):Int × Int × Int:=
 if g.ok then (if x.ok then (q2i g x.lo,q2i g x.hi,0) else (0,0,10)) else (0,0,21)
def qk6 (g:Gd)(x:Gp):Int × Int:=
 if (q1t g x).2.2≠0 then (0,(q1t g x).2.2) else
 if u64.wrap g.most < qwa x then (0,17) else
 if g.policy=0 then ((q1t g x).1,0) else
 if g.policy=1 then ((q1t g x).2.1,0) else
 if g.policy=2 then (q2i g (midS x),0) else
 if (q1t g x).1≠(q1t g x).2.1 then (0,17) else ((q1t g x).1,0)
structure Smp where
 asked:Int
 got:Int
 sent:Int
 came:Int
deriving DecidableEq
def Smp.z:Smp:=⟨0,0,0,0⟩
abbrev q5u (s:Smp):List Value:=[.int .i64 s.asked,.int .i64 s.got,.int .i64 s.sent,.int .i64 s.came]
abbrev aggSm (s:Smp):Value:=.agg #[.int .i64 s.asked,.int .i64 s.got,.int .i64 s.sent,.int .i64 s.came]
theorem q2p (s:Smp):(q5u s).length=4:=rfl
theorem qe2 (s:Smp):q07 (q5u s)=true:=rfl
abbrev isTm (t:Int):Prop:=0≤t∧t≤4611686018427387903
def Smp.ok (s:Smp):Prop:=isTm s.asked∧isTm s.got∧isTm s.sent∧isTm s.came∧s.asked≤s.came∧s.got≤s.sent
instance (s:Smp):Decidable s.ok:=by unfold Smp.ok; infer_instance
def Smp.wf (s:Smp):Prop:=wf64 s.asked∧wf64 s.got∧wf64 s.sent∧wf64 s.came
theorem Smp.ok.wf {s:Smp}(h:s.ok):s.wf:=by unfold Smp.ok isTm at h; unfold Smp.wf wf64; omega
def qb4 (s:Smp)(stamp rho:Int):Gp × Int:=
 if ¬s.ok then (Gp.z,10) else
 if ¬isTm stamp∨¬q3o rho then (Gp.z,11) else
 let low:=(lowS (stamp - s.got) rho).1
 let high:=(qr1 (stamp - s.sent) rho).1
 let lo:=if 0 > i64.wrap (s.asked+low) then 0 else i64.wrap (s.asked+low)
 let h1:=if (addS s.came high).2≠0 then 4611686018427387903 else (addS s.came high).1
 let hi:=if 4611686018427387903 < h1 then 4611686018427387903 else h1
 if hi < lo then (Gp.z,13) else (⟨lo,hi⟩,0)
structure Ck where
 rho:Int
 least:Int
 held:Bool
 streak:Int
 smps:List Smp
deriving DecidableEq
def qb5 (rho stamp:Int)(s:Smp):Gp:=if (qb4 s stamp rho).2≠0 then ⟨1,0⟩ else (qb4 s stamp rho).1
def qhh (l:List Gp):Bool:=decide (0 < l.length) && decide ((qgp l).2=0)
def qgq (c:Ck)(s:Smp):Ck × Int:=
 if ¬s.ok then (c,10) else
 let l:=if 8 < c.smps.length+1 then (c.smps++[s]).drop 1 else c.smps++[s]
 let gs:=l.map (qb5 c.rho s.sent)
 if qhh gs then
  let st:=if c.streak < 9223372036854775807 then c.streak+1 else c.streak
  ({ c with streak:=st,held:=if c.least≤st then false else c.held,smps:=l },0)
 else ({ c with held:=true,streak:=0,smps:=if (qb5 c.rho s.sent s).ok then [s] else [] },21)
def qlo (rho stamp:Int):List Smp→List Gp × Int
 | []=>([],0)
 | s::r=>if (qb4 s stamp rho).2≠0 then ([],(qb4 s stamp rho).2) else ((qb4 s stamp rho).1::(qlo rho stamp r).1,(qlo rho stamp r).2)
def ckAt (c:Ck)(stamp:Int):Gp × Int:=
 if c.smps=[] then (Gp.z,19) else
 if ¬isTm stamp then (Gp.z,11) else
 if (qlo c.rho stamp c.smps).2≠0 then (Gp.z,(qlo c.rho stamp c.smps).2) else qgp (qlo c.rho stamp c.smps).1
structure CkOk (c:Ck):Prop where
 len:c.smps.length≤8
 ok:∀s∈c.smps,s.ok
 st:0≤c.streak∧c.streak≤9223372036854775807
theorem ckAdd_ok {c:Ck}(h:CkOk c)(s:Smp):CkOk (qgq c s).1:=by
 unfold qgq
 split
 ·exact h
 ·rename_i hs;have hs:s.ok:=Decidable.not_not.1 hs;have hl:∀x∈(if 8 < c.smps.length+1 then (c.smps++[s]).drop 1 else c.smps++[s]),x.ok:=by
   intro x hx;have:x∈c.smps++[s]:=by
    split at hx
    ·exact z7c hx
    ·exact hx
   rcases z6g.1 this with h1|h1
   ·exact h.ok x h1
   ·rw [z60] at h1; rw [h1]; exact hs
  have hn:(if 8 < c.smps.length+1 then (c.smps++[s]).drop 1 else c.smps++[s]).length≤8:=by
   have:=h.len
   split
   ·simp only [z5u,z51,z6x]; omega
   ·simp only [z51,z6x]; omega
  dsimp only;generalize (if 8 < c.smps.length+1 then (c.smps++[s]).drop 1 else c.smps++[s])=l at hl hn ⊢
  by_cases hag:qhh (l.map (qb5 c.rho s.sent))=true
  ·rw [if_pos hag];exact⟨hn,hl,by have:=h.st; dsimp only; split <;> omega⟩
  ·rw [if_neg hag];refine⟨?_,?_,by dsimp only; omega⟩
   ·dsimp only; split <;> simp
   ·dsimp only
    split
    ·intro x hx; rw [z60] at hx; rw [hx]; exact hs
    ·intro x hx; cases hx
end Go.Nm
namespace Go.Proofs.YtfmkddccnjidmaaGreatDoor
open Go.Nm
section
variable {F L:List Assn} {H:Heap} {K:Value→Heap→Prop}
theorem q6m {g:Gp}(h:SatL H F)(k:∀H',SatL H' F→K (.bool (decide g.ok)) H'):CF 142 #[aggG g] H K:=by
 refine qfc.call ?_;unfold qfc.code
 repeat (first
  | refine h.al fun _ _ h=>?_
  | refine q02 ?_
  | refine⟨fun _=>trivial,?_⟩
  | refine⟨_,h.rd 0 rfl _,?_⟩
  | refine h.st 0 rfl rfl fun _ h=>?_
  | refine⟨_,fun _=>h.rd 0 rfl _,?_⟩)
 exact k _ h.tl
theorem qyp {a b:Gp}(h:SatL H F)(k:∀H',SatL H' F→K (aggG (meet2 a b)) H'):CF 201 #[aggG a,aggG b] H K:=by
 refine qcw.call ?_;unfold qcw.code
 repeat (first
  | refine h.al fun _ _ h=>?_
  | refine q02 ?_
  | refine⟨fun _=>trivial,?_⟩
  | refine⟨_,h.rd 0 rfl _,?_⟩
  | refine⟨_,h.rd 1 rfl _,?_⟩
  | refine⟨_,h.rd 2 rfl _,?_⟩
  | refine h.st 0 rfl rfl fun _ h=>?_
  | refine h.st 1 rfl rfl fun _ h=>?_
  | refine h.st 2 rfl rfl fun _ h=>?_
  | refine⟨_,_,h.rds 0 rfl rfl,?_⟩
  | refine⟨_,_,h.rds 1 rfl rfl,?_⟩
  | refine⟨_,_,h.rds 2 rfl rfl,?_⟩
  | refine⟨_,fun _=>h.rd 0 rfl _,?_⟩
  | refine⟨_,fun _=>h.rd 1 rfl _,?_⟩
  | refine⟨_,fun _=>h.rd 2 rfl _,?_⟩
  | refine⟨_,_,fun _=>h.rds 0 rfl rfl,?_⟩
  | refine⟨_,_,fun _=>h.rds 1 rfl rfl,?_⟩
  | refine⟨_,_,fun _=>h.rds 2 rfl rfl,?_⟩)
 exact k _ h.tl.tl.tl
theorem z2b {s:Gp}{a:Option Addr}{c:Nat}{gs:List Gp}(h:SatL H F)(ha:∀H,SatL H F→rdS H a (flat encG gs))(hl:gs.length≤1000000)
  (k:∀H',SatL H' F→K (.tuple #[aggG (qk4 s gs).1,I64 (qk4 s gs).2]) H') :
  CF 200 #[aggG s,.slice a gs.length c,.func (.func 201) #[] #[]] H K:=by
 refine qa7.call ?_;unfold qa7.code;refine h.al fun b _ h=>?_
 refine h.al fun b1 _ h=>?_
 refine⟨fun i H'=>∃(j:Nat) (t:Gp),i=j∧j≤gs.length∧qk4 s gs=qk4 t (gs.drop j)∧SatL H' (cellsA b1 [I64 0,I64 0] 53::cellsA b (encG t) 53::F),fun i _=>gs.length - i.toNat,⟨0,s,rfl,z5s _,rfl,h⟩,?_⟩
 rintro i H1 ⟨j,t,rfl,hj,e,h⟩;unfold qa7.l1;refine⟨fun hc=>?_,fun hc=>?_⟩
 ·have hlt:j < gs.length:=by simpa using hc
  have hr:=ha _ h.tl.tl;rw [z6h hlt,qk4] at e;refine⟨⟨by omega,by omega⟩,_,_,hr.some qik (by omega) hlt,_,_,hr.els qik hlt,?_⟩;refine h.al fun b3 _ h=>?_
  repeat (first
   | refine h.al fun _ _ h=>?_
   | refine q02 ?_
   | refine⟨fun _=>trivial,?_⟩
   | refine⟨_,h.rd 0 rfl _,?_⟩
   | refine⟨_,h.rd 1 rfl _,?_⟩
   | refine⟨_,h.rd 2 rfl _,?_⟩
   | refine h.st 0 rfl rfl fun _ h=>?_
   | refine h.st 1 rfl rfl fun _ h=>?_
   | refine h.st 2 rfl rfl fun _ h=>?_
   | refine⟨_,_,h.rds 0 rfl rfl,?_⟩
   | refine⟨_,_,h.rds 1 rfl rfl,?_⟩
   | refine⟨_,_,h.rds 2 rfl rfl,?_⟩
   | refine⟨_,fun _=>h.rd 0 rfl _,?_⟩
   | refine⟨_,fun _=>h.rd 1 rfl _,?_⟩
   | refine⟨_,fun _=>h.rd 2 rfl _,?_⟩
   | refine⟨_,_,fun _=>h.rds 0 rfl rfl,?_⟩
   | refine⟨_,_,fun _=>h.rds 1 rfl rfl,?_⟩
   | refine⟨_,_,fun _=>h.rds 2 rfl rfl,?_⟩)
  refine q6m (g:=gs[j]) h fun H2 h=>⟨_,rfl,fun hc2=>?_,fun hc2=>?_⟩
  ·have:¬(gs[j]).ok:=by simpa using hc2
   rw [if_neg this] at e
   repeat (first
    | refine h.al fun _ _ h=>?_
    | refine q02 ?_
    | refine⟨fun _=>trivial,?_⟩
    | refine⟨_,h.rd 0 rfl _,?_⟩
    | refine⟨_,h.rd 1 rfl _,?_⟩
    | refine⟨_,h.rd 2 rfl _,?_⟩
    | refine h.st 0 rfl rfl fun _ h=>?_
    | refine h.st 1 rfl rfl fun _ h=>?_
    | refine h.st 2 rfl rfl fun _ h=>?_
    | refine⟨_,_,h.rds 0 rfl rfl,?_⟩
    | refine⟨_,_,h.rds 1 rfl rfl,?_⟩
    | refine⟨_,_,h.rds 2 rfl rfl,?_⟩
    | refine⟨_,fun _=>h.rd 0 rfl _,?_⟩
    | refine⟨_,fun _=>h.rd 1 rfl _,?_⟩
    | refine⟨_,fun _=>h.rd 2 rfl _,?_⟩
    | refine⟨_,_,fun _=>h.rds 0 rfl rfl,?_⟩
    | refine⟨_,_,fun _=>h.rds 1 rfl rfl,?_⟩
    | refine⟨_,_,fun _=>h.rds 2 rfl rfl,?_⟩)
   have:=k _ h.tl.tl.tl;rw [e] at this;exact this
  ·have:(gs[j]).ok:=by simpa using hc2
   rw [if_pos this] at e
   repeat (first
    | refine h.al fun _ _ h=>?_
    | refine q02 ?_
    | refine⟨fun _=>trivial,?_⟩
    | refine⟨_,h.rd 0 rfl _,?_⟩
    | refine⟨_,h.rd 1 rfl _,?_⟩
    | refine⟨_,h.rd 2 rfl _,?_⟩
    | refine h.st 0 rfl rfl fun _ h=>?_
    | refine h.st 1 rfl rfl fun _ h=>?_
    | refine h.st 2 rfl rfl fun _ h=>?_
    | refine⟨_,_,h.rds 0 rfl rfl,?_⟩
    | refine⟨_,_,h.rds 1 rfl rfl,?_⟩
    | refine⟨_,_,h.rds 2 rfl rfl,?_⟩
    | refine⟨_,fun _=>h.rd 0 rfl _,?_⟩
    | refine⟨_,fun _=>h.rd 1 rfl _,?_⟩
    | refine⟨_,fun _=>h.rd 2 rfl _,?_⟩
    | refine⟨_,_,fun _=>h.rds 0 rfl rfl,?_⟩
    | refine⟨_,_,fun _=>h.rds 1 rfl rfl,?_⟩
    | refine⟨_,_,fun _=>h.rds 2 rfl rfl,?_⟩)
   refine⟨by kernel_rfl,?_⟩;refine qyp (a:=t) (b:=gs[j]) h fun H3 h=>⟨_,_,rfl,?_⟩
   repeat (first
    | refine h.al fun _ _ h=>?_
    | refine q02 ?_
    | refine⟨fun _=>trivial,?_⟩
    | refine⟨_,h.rd 0 rfl _,?_⟩
    | refine⟨_,h.rd 1 rfl _,?_⟩
    | refine⟨_,h.rd 2 rfl _,?_⟩
    | refine h.st 0 rfl rfl fun _ h=>?_
    | refine h.st 1 rfl rfl fun _ h=>?_
    | refine h.st 2 rfl rfl fun _ h=>?_
    | refine⟨_,_,h.rds 0 rfl rfl,?_⟩
    | refine⟨_,_,h.rds 1 rfl rfl,?_⟩
    | refine⟨_,_,h.rds 2 rfl rfl,?_⟩
    | refine⟨_,fun _=>h.rd 0 rfl _,?_⟩
    | refine⟨_,fun _=>h.rd 1 rfl _,?_⟩
    | refine⟨_,fun _=>h.rd 2 rfl _,?_⟩
    | refine⟨_,_,fun _=>h.rds 0 rfl rfl,?_⟩
    | refine⟨_,_,fun _=>h.rds 1 rfl rfl,?_⟩
    | refine⟨_,_,fun _=>h.rds 2 rfl rfl,?_⟩)
   have hw:i64.wrap ((j:Int)+1)=((j+1:Nat):Int):=by rw [w64 (by omega) (by omega)]; omega
   rw [hw];exact⟨⟨j+1,_,rfl,hlt,e,h.tl⟩,by simp only [z5a]; omega⟩
 ·have hge:gs.length≤j:=by simpa using hc
  rw [z7v hge,qk4] at e
  repeat (first
   | refine h.al fun _ _ h=>?_
   | refine q02 ?_
   | refine⟨fun _=>trivial,?_⟩
   | refine⟨_,h.rd 0 rfl _,?_⟩
   | refine⟨_,h.rd 1 rfl _,?_⟩
   | refine h.st 0 rfl rfl fun _ h=>?_
   | refine h.st 1 rfl rfl fun _ h=>?_
   | refine⟨_,_,h.rds 0 rfl rfl,?_⟩
   | refine⟨_,_,h.rds 1 rfl rfl,?_⟩
   | refine⟨_,fun _=>h.rd 0 rfl _,?_⟩
   | refine⟨_,fun _=>h.rd 1 rfl _,?_⟩
   | refine⟨_,_,fun _=>h.rds 0 rfl rfl,?_⟩
   | refine⟨_,_,fun _=>h.rds 1 rfl rfl,?_⟩)
  refine q6m (g:=t) h fun H2 h=>⟨_,rfl,fun hc2=>?_,fun hc2=>?_⟩
  ·have:¬t.ok:=by simpa using hc2
   rw [if_neg this] at e
   repeat (first
    | refine h.al fun _ _ h=>?_
    | refine q02 ?_
    | refine⟨fun _=>trivial,?_⟩
    | refine⟨_,h.rd 0 rfl _,?_⟩
    | refine⟨_,h.rd 1 rfl _,?_⟩
    | refine h.st 0 rfl rfl fun _ h=>?_
    | refine h.st 1 rfl rfl fun _ h=>?_
    | refine⟨_,_,h.rds 0 rfl rfl,?_⟩
    | refine⟨_,_,h.rds 1 rfl rfl,?_⟩
    | refine⟨_,fun _=>h.rd 0 rfl _,?_⟩
    | refine⟨_,fun _=>h.rd 1 rfl _,?_⟩
    | refine⟨_,_,fun _=>h.rds 0 rfl rfl,?_⟩
    | refine⟨_,_,fun _=>h.rds 1 rfl rfl,?_⟩)
   have:=k _ h.tl.tl;rw [e] at this;exact this
  ·have:t.ok:=by simpa using hc2
   rw [if_pos this] at e
   repeat (first
    | refine h.al fun _ _ h=>?_
    | refine q02 ?_
    | refine⟨fun _=>trivial,?_⟩
    | refine⟨_,h.rd 0 rfl _,?_⟩
    | refine⟨_,h.rd 1 rfl _,?_⟩
    | refine h.st 0 rfl rfl fun _ h=>?_
    | refine h.st 1 rfl rfl fun _ h=>?_
    | refine⟨_,_,h.rds 0 rfl rfl,?_⟩
    | refine⟨_,_,h.rds 1 rfl rfl,?_⟩
    | refine⟨_,fun _=>h.rd 0 rfl _,?_⟩
    | refine⟨_,fun _=>h.rd 1 rfl _,?_⟩
    | refine⟨_,_,fun _=>h.rds 0 rfl rfl,?_⟩
    | refine⟨_,_,fun _=>h.rds 1 rfl rfl,?_⟩)
   have:=k _ h.tl.tl;rw [e] at this;exact this
theorem qbt {a:Option Addr}{c:Nat}{gs:List Gp}(h:SatL H F)(ha:∀H,SatL H F→rdS H a (flat encG gs))(hl:gs.length≤1000000)
  (k:∀H',SatL H' F→K (.tuple #[aggG (qgp gs).1,I64 (qgp gs).2]) H') :
  CF 159 #[.slice a gs.length c] H K:=by
 refine qib.call ?_;unfold qib.code
 repeat (first
  | refine h.al fun _ _ h=>?_
  | refine q02 ?_
  | refine⟨fun _=>trivial,?_⟩
  | refine⟨_,h.rd 0 rfl _,?_⟩
  | refine⟨_,h.rd 1 rfl _,?_⟩
  | refine h.st 0 rfl rfl fun _ h=>?_
  | refine h.st 1 rfl rfl fun _ h=>?_
  | refine⟨_,_,h.rds 0 rfl rfl,?_⟩
  | refine⟨_,_,h.rds 1 rfl rfl,?_⟩
  | refine⟨_,fun _=>h.rd 0 rfl _,?_⟩
  | refine⟨_,fun _=>h.rd 1 rfl _,?_⟩
  | refine⟨_,_,fun _=>h.rds 0 rfl rfl,?_⟩
  | refine⟨_,_,fun _=>h.rds 1 rfl rfl,?_⟩)
 refine z2b (s:=⟨_,_⟩) h (fun H h=>ha H h.tl.tl) hl fun H' h=>⟨_,_,_,rfl,?_⟩
 repeat (first
  | refine h.al fun _ _ h=>?_
  | refine q02 ?_
  | refine⟨fun _=>trivial,?_⟩
  | refine⟨_,h.rd 0 rfl _,?_⟩
  | refine⟨_,h.rd 1 rfl _,?_⟩
  | refine h.st 0 rfl rfl fun _ h=>?_
  | refine h.st 1 rfl rfl fun _ h=>?_
  | refine⟨_,_,h.rds 0 rfl rfl,?_⟩
  | refine⟨_,_,h.rds 1 rfl rfl,?_⟩
  | refine⟨_,fun _=>h.rd 0 rfl _,?_⟩
  | refine⟨_,fun _=>h.rd 1 rfl _,?_⟩
  | refine⟨_,_,fun _=>h.rds 0 rfl rfl,?_⟩
  | refine⟨_,_,fun _=>h.rds 1 rfl rfl,?_⟩)
 exact k _ h.tl.tl
theorem qyq {a:Option Addr}{c:Nat}{gs:List Gp}(h:SatL H F)(ha:∀H,SatL H F→rdS H a (flat encG gs))(hl:gs.length≤1000000)
  (k:∀H',SatL H' F→K (.bool (qhh gs)) H') :
  CF 141 #[.slice a gs.length c] H K:=by
 refine qa8.call ?_;unfold qa8.code;refine qbt h ha hl fun H' h=>⟨_,_,_,rfl,?_⟩
 repeat (first
  | refine h.al fun _ _ h=>?_
  | refine q02 ?_
  | refine⟨fun _=>trivial,?_⟩
  | refine⟨_,h.rd 0 rfl _,?_⟩
  | refine h.st 0 rfl rfl fun _ h=>?_
  | refine⟨_,_,h.rds 0 rfl rfl,?_⟩
  | refine⟨_,fun _=>h.rd 0 rfl _,?_⟩
  | refine⟨_,_,fun _=>h.rds 0 rfl rfl,?_⟩)
 have:=k _ h.tl;unfold qhh at this;rw [show decide (0 < gs.length)=decide (0 < (gs.length:Int)) by rw [decide_eq_decide]; omega] at this;exact this
theorem qyr {g:Gp}(h:SatL H F)(k:∀H',SatL H' F→K (.int .u64 (qwa g)) H'):CF 223 #[aggG g] H K:=by
 refine qf9.call ?_;unfold qf9.code
 repeat (first
  | refine h.al fun _ _ h=>?_
  | refine q02 ?_
  | refine⟨fun _=>trivial,?_⟩
  | refine⟨_,h.rd 0 rfl _,?_⟩
  | refine h.st 0 rfl rfl fun _ h=>?_
  | refine⟨_,_,h.rds 0 rfl rfl,?_⟩
  | refine⟨_,fun _=>h.rd 0 rfl _,?_⟩
  | refine⟨_,_,fun _=>h.rds 0 rfl rfl,?_⟩)
 refine q6m (g:=g) h fun H' h=>⟨_,rfl,fun hc=>?_,fun hc=>?_⟩
 ·have:¬g.ok:=by simpa using hc
  unfold qwa at k;rw [if_neg this] at k;exact k _ h.tl
 ·have:g.ok:=by simpa using hc
  unfold qwa at k;rw [if_pos this] at k
  repeat (first
   | refine h.al fun _ _ h=>?_
   | refine q02 ?_
   | refine⟨fun _=>trivial,?_⟩
   | refine⟨_,h.rd 0 rfl _,?_⟩
   | refine h.st 0 rfl rfl fun _ h=>?_
   | refine⟨_,fun _=>h.rd 0 rfl _,?_⟩)
  exact k _ h.tl
theorem Mid_spec {g:Gp}(h:SatL H F)(k:∀H',SatL H' F→K (I64 (midS g)) H'):CF 224 #[aggG g] H K:=by
 refine qol.call ?_;unfold qol.code
 repeat (first
  | refine h.al fun _ _ h=>?_
  | refine q02 ?_
  | refine⟨fun _=>trivial,?_⟩
  | refine⟨_,h.rd 0 rfl _,?_⟩
  | refine h.st 0 rfl rfl fun _ h=>?_
  | refine⟨_,_,h.rds 0 rfl rfl,?_⟩
  | refine⟨_,fun _=>h.rd 0 rfl _,?_⟩
  | refine⟨_,_,fun _=>h.rds 0 rfl rfl,?_⟩)
 refine q6m (g:=g) h fun H' h=>⟨_,rfl,fun hc=>?_,fun hc=>?_⟩
 ·have:¬g.ok:=by simpa using hc
  unfold midS at k;rw [if_neg this] at k;exact k _ h.tl
 ·have:g.ok:=by simpa using hc
  unfold midS at k;rw [if_pos this] at k
  repeat (first
   | refine h.al fun _ _ h=>?_
   | refine q02 ?_
   | refine⟨fun _=>trivial,?_⟩
   | refine⟨_,h.rd 0 rfl _,?_⟩
   | refine h.st 0 rfl rfl fun _ h=>?_
   | refine⟨_,fun _=>h.rd 0 rfl _,?_⟩)
  refine⟨by decide,?_⟩;exact k _ h.tl
theorem qe3 {g:Gd}(h:SatL H F)(k:∀H',SatL H' F→K (.bool (decide g.ok)) H'):CF 75 #[z2a g] H K:=by
 refine qcz.call ?_;unfold qcz.code
 repeat (first
  | refine h.al fun _ _ h=>?_
  | refine q02 ?_
  | refine⟨fun _=>trivial,?_⟩
  | refine⟨_,h.rd 0 rfl _,?_⟩
  | refine h.st 0 rfl rfl fun _ h=>?_
  | refine⟨_,fun _=>h.rd 0 rfl _,?_⟩)
 have:=k _ h.tl;have e:decide g.ok=((((((decide (1≤g.width)) && (decide (g.width≤1099511627776))) && (decide (0≤g.policy))) && (decide (g.policy≤3))) && (decide (0≤g.most))) && (decide (g.most≤4611686018427387903))):=by
  rw [z65];simp only [z56,z52]
  constructor
  ·rintro⟨h1,h2,h3,h4,h5,h6⟩; exact⟨⟨⟨⟨⟨h1,h2⟩,h3⟩,h4⟩,h5⟩,h6⟩
  ·rintro⟨⟨⟨⟨⟨h1,h2⟩,h3⟩,h4⟩,h5⟩,h6⟩; exact⟨h1,h2,h3,h4,h5,h6⟩
 rw [e] at this;exact this
theorem qr3 {g:Gd}(h:SatL H F)(k:∀H',SatL H' F→K (.tuple #[z2a (if g.ok then g else ⟨0,0,0⟩),I64 (if g.ok then 0 else 11)]) H') :
  CF 20 #[I64 g.width,I64 g.policy,I64 g.most] H K:=by
 refine qic.call ?_;unfold qic.code
 repeat (first
  | refine h.al fun _ _ h=>?_
  | refine q02 ?_
  | refine⟨fun _=>trivial,?_⟩
  | refine⟨_,h.rd 0 rfl _,?_⟩
  | refine⟨_,h.rd 1 rfl _,?_⟩
  | refine h.st 0 rfl rfl fun _ h=>?_
  | refine h.st 1 rfl rfl fun _ h=>?_
  | refine⟨_,_,_,h.rds 0 rfl rfl,?_⟩
  | refine⟨_,_,_,h.rds 1 rfl rfl,?_⟩
  | refine⟨_,fun _=>h.rd 0 rfl _,?_⟩
  | refine⟨_,fun _=>h.rd 1 rfl _,?_⟩
  | refine⟨_,_,_,fun _=>h.rds 0 rfl rfl,?_⟩
  | refine⟨_,_,_,fun _=>h.rds 1 rfl rfl,?_⟩)
 refine qe3 (g:=g) h fun H' h=>⟨_,rfl,fun hc=>?_,fun hc=>?_⟩
 ·have:¬g.ok:=by simpa using hc
  rw [if_neg this,if_neg this] at k
  repeat (first
   | refine h.al fun _ _ h=>?_
   | refine q02 ?_
   | refine⟨fun _=>trivial,?_⟩
   | refine⟨_,h.rd 0 rfl _,?_⟩
   | refine⟨_,h.rd 1 rfl _,?_⟩
   | refine h.st 0 rfl rfl fun _ h=>?_
   | refine h.st 1 rfl rfl fun _ h=>?_
   | refine⟨_,_,_,h.rds 0 rfl rfl,?_⟩
   | refine⟨_,_,_,h.rds 1 rfl rfl,?_⟩
   | refine⟨_,fun _=>h.rd 0 rfl _,?_⟩
   | refine⟨_,fun _=>h.rd 1 rfl _,?_⟩
   | refine⟨_,_,_,fun _=>h.rds 0 rfl rfl,?_⟩
   | refine⟨_,_,_,fun _=>h.rds 1 rfl rfl,?_⟩)
  exact k _ h.tl.tl
 ·have:g.ok:=by simpa using hc
  rw [if_pos this,if_pos this] at k
  repeat (first
   | refine h.al fun _ _ h=>?_
   | refine q02 ?_
   | refine⟨fun _=>trivial,?_⟩
   | refine⟨_,h.rd 0 rfl _,?_⟩
   | refine⟨_,h.rd 1 rfl _,?_⟩
   | refine h.st 0 rfl rfl fun _ h=>?_
   | refine h.st 1 rfl rfl fun _ h=>?_
   | refine⟨_,_,_,h.rds 0 rfl rfl,?_⟩
   | refine⟨_,_,_,h.rds 1 rfl rfl,?_⟩
   | refine⟨_,fun _=>h.rd 0 rfl _,?_⟩
   | refine⟨_,fun _=>h.rd 1 rfl _,?_⟩
   | refine⟨_,_,_,fun _=>h.rds 0 rfl rfl,?_⟩
   | refine⟨_,_,_,fun _=>h.rds 1 rfl rfl,?_⟩)
  exact k _ h.tl.tl
theorem qai {g:Gd}{t:Int}(h:SatL H F)(k:∀H',SatL H' F→K (I64 (q2i g t)) H'):CF 22 #[z2a g,I64 t] H K:=by
 refine q3z.call ?_;unfold q3z.code
 repeat (first
  | refine h.al fun _ _ h=>?_
  | refine q02 ?_
  | refine⟨fun _=>trivial,?_⟩
  | refine⟨_,h.rd 0 rfl _,?_⟩
  | refine h.st 0 rfl rfl fun _ h=>?_
  | refine⟨_,_,_,h.rds 0 rfl rfl,?_⟩
  | refine⟨_,fun _=>h.rd 0 rfl _,?_⟩
  | refine⟨_,_,_,fun _=>h.rds 0 rfl rfl,?_⟩)
 refine qe3 (g:=g) h fun H' h=>⟨_,rfl,fun hc=>?_,fun hc=>?_⟩
 ·have:¬g.ok:=by simpa using hc
  unfold q2i at k;rw [if_neg this] at k;exact k _ h.tl
 ·have hg:g.ok:=by simpa using hc
  unfold q2i at k;rw [if_pos hg] at k;have h0:g.width≠0:=by unfold Gd.ok at hg; omega
  refine⟨_,h.rd 0 rfl _,h0,_,h.rd 0 rfl _,h0,fun Jn hJ=>⟨fun hc2=>hJ _ _ ?_,fun hc2=>hJ _ _ ?_⟩⟩
  ·unfold q3z.r1;rw [if_pos (by simpa using hc2)] at k;exact k _ h.tl
  ·unfold q3z.r1;rw [if_neg (by simpa using hc2)] at k;exact k _ h.tl
theorem qmk {g:Gd}{x:Gp}(h:SatL H F)(k:∀H',SatL H' F→K (.tuple #[I64 (q1t g x).1,I64 (q1t g x).2.1,I64 (q1t g x).2.2]) H') :
  CF 191 #[z2a g,aggG x] H K:=by
 refine qcx.call ?_;unfold qcx.code
 repeat (first
  | refine h.al fun _ _ h=>?_
  | refine q02 ?_
  | refine⟨fun _=>trivial,?_⟩
  | refine⟨_,h.rd 0 rfl _,?_⟩
  | refine⟨_,h.rd 1 rfl _,?_⟩
  | refine h.st 0 rfl rfl fun _ h=>?_
  | refine h.st 1 rfl rfl fun _ h=>?_
  | refine⟨_,_,_,h.rds 0 rfl rfl,?_⟩
  | refine⟨_,_,_,h.rds 1 rfl rfl,?_⟩
  | refine⟨_,fun _=>h.rd 0 rfl _,?_⟩
  | refine⟨_,fun _=>h.rd 1 rfl _,?_⟩
  | refine⟨_,_,_,fun _=>h.rds 0 rfl rfl,?_⟩
  | refine⟨_,_,_,fun _=>h.rds 1 rfl rfl,?_⟩)
 unfold q1t at k;refine qe3 (g:=g) h fun H' h=>⟨_,rfl,fun hc=>?_,fun hc=>?_⟩
 ·have:¬g.ok:=by simpa using hc
  rw [if_neg this] at k;exact k _ h.tl.tl
 ·have:g.ok:=by simpa using hc
  rw [if_pos this] at k
  repeat (first
   | refine h.al fun _ _ h=>?_
   | refine q02 ?_
   | refine⟨fun _=>trivial,?_⟩
   | refine⟨_,h.rd 0 rfl _,?_⟩
   | refine⟨_,h.rd 1 rfl _,?_⟩
   | refine h.st 0 rfl rfl fun _ h=>?_
   | refine h.st 1 rfl rfl fun _ h=>?_
   | refine⟨_,_,h.rds 0 rfl rfl,?_⟩
   | refine⟨_,_,h.rds 1 rfl rfl,?_⟩
   | refine⟨_,fun _=>h.rd 0 rfl _,?_⟩
   | refine⟨_,fun _=>h.rd 1 rfl _,?_⟩
   | refine⟨_,_,fun _=>h.rds 0 rfl rfl,?_⟩
   | refine⟨_,_,fun _=>h.rds 1 rfl rfl,?_⟩)
  refine q6m (g:=x) h fun H' h=>⟨_,rfl,fun hc=>?_,fun hc=>?_⟩
  ·have:¬x.ok:=by simpa using hc
   rw [if_neg this] at k;exact k _ h.tl.tl
  ·have:x.ok:=by simpa using hc
   rw [if_pos this] at k
   repeat (first
    | refine h.al fun _ _ h=>?_
    | refine q02 ?_
    | refine⟨fun _=>trivial,?_⟩
    | refine⟨_,h.rd 0 rfl _,?_⟩
    | refine⟨_,h.rd 1 rfl _,?_⟩
    | refine h.st 0 rfl rfl fun _ h=>?_
    | refine h.st 1 rfl rfl fun _ h=>?_
    | refine⟨_,_,_,h.rds 0 rfl rfl,?_⟩
    | refine⟨_,_,_,h.rds 1 rfl rfl,?_⟩
    | refine⟨_,fun _=>h.rd 0 rfl _,?_⟩
    | refine⟨_,fun _=>h.rd 1 rfl _,?_⟩
    | refine⟨_,_,_,fun _=>h.rds 0 rfl rfl,?_⟩
    | refine⟨_,_,_,fun _=>h.rds 1 rfl rfl,?_⟩)
   refine qai (g:=g) h fun H' h=>⟨_,rfl,h.rd 0 rfl _,h.rds 1 rfl rfl,?_⟩
   refine qai (g:=g) h fun H' h=>⟨_,rfl,?_⟩
   exact k _ h.tl.tl
theorem z2c {g:Gd}{x:Gp}(h:SatL H F)(k:∀H',SatL H' F→K (.tuple #[I64 (qk6 g x).1,I64 (qk6 g x).2]) H') :
  CF 193 #[z2a g,aggG x] H K:=by
 refine qfa.call ?_;unfold qfa.code
 repeat (first
  | refine h.al fun _ _ h=>?_
  | refine q02 ?_
  | refine⟨fun _=>trivial,?_⟩
  | refine⟨_,h.rd 0 rfl _,?_⟩
  | refine⟨_,h.rd 1 rfl _,?_⟩
  | refine h.st 0 rfl rfl fun _ h=>?_
  | refine h.st 1 rfl rfl fun _ h=>?_
  | refine⟨_,_,_,h.rds 0 rfl rfl,?_⟩
  | refine⟨_,_,_,h.rds 1 rfl rfl,?_⟩
  | refine⟨_,_,h.rds 0 rfl rfl,?_⟩
  | refine⟨_,_,h.rds 1 rfl rfl,?_⟩
  | refine⟨_,fun _=>h.rd 0 rfl _,?_⟩
  | refine⟨_,fun _=>h.rd 1 rfl _,?_⟩
  | refine⟨_,_,_,fun _=>h.rds 0 rfl rfl,?_⟩
  | refine⟨_,_,_,fun _=>h.rds 1 rfl rfl,?_⟩
  | refine⟨_,_,fun _=>h.rds 0 rfl rfl,?_⟩
  | refine⟨_,_,fun _=>h.rds 1 rfl rfl,?_⟩)
 unfold qk6 at k;refine qmk (g:=g) (x:=x) h fun H' h=>⟨_,_,_,rfl,fun hc=>?_,fun hc=>?_⟩
 ·rw [if_pos (by simpa using hc)] at k;exact k _ h.tl.tl
 ·rw [if_neg (by simpa using hc)] at k
  repeat (first
   | refine h.al fun _ _ h=>?_
   | refine q02 ?_
   | refine⟨fun _=>trivial,?_⟩
   | refine⟨_,h.rd 0 rfl _,?_⟩
   | refine⟨_,h.rd 1 rfl _,?_⟩
   | refine h.st 0 rfl rfl fun _ h=>?_
   | refine h.st 1 rfl rfl fun _ h=>?_
   | refine⟨_,_,h.rds 0 rfl rfl,?_⟩
   | refine⟨_,_,h.rds 1 rfl rfl,?_⟩
   | refine⟨_,fun _=>h.rd 0 rfl _,?_⟩
   | refine⟨_,fun _=>h.rd 1 rfl _,?_⟩
   | refine⟨_,_,fun _=>h.rds 0 rfl rfl,?_⟩
   | refine⟨_,_,fun _=>h.rds 1 rfl rfl,?_⟩)
  refine qyr (g:=x) h fun H' h=>⟨_,rfl,h.rd 1 rfl _,fun hc=>?_,fun hc=>?_⟩
  ·rw [if_pos (by simpa using hc)] at k;exact k _ h.tl.tl
  ·rw [if_neg (by simpa using hc)] at k
   repeat (first
    | refine h.al fun _ _ h=>?_
    | refine q02 ?_
    | refine⟨fun _=>trivial,?_⟩
    | refine⟨_,h.rd 0 rfl _,?_⟩
    | refine⟨_,h.rd 1 rfl _,?_⟩
    | refine h.st 0 rfl rfl fun _ h=>?_
    | refine h.st 1 rfl rfl fun _ h=>?_
    | refine⟨_,fun _=>h.rd 0 rfl _,?_⟩
    | refine⟨_,fun _=>h.rd 1 rfl _,?_⟩)
   refine⟨fun hc=>?_,fun hc=>?_⟩
   ·rw [if_pos (by simpa using hc)] at k;exact k _ h.tl.tl
   rw [if_neg (by simpa using hc)] at k;refine⟨fun hc=>?_,fun hc=>?_⟩
   ·rw [if_pos (by simpa using hc)] at k;exact k _ h.tl.tl
   rw [if_neg (by simpa using hc)] at k;refine⟨fun hc=>?_,fun hc=>?_⟩
   ·rw [if_pos (by simpa using hc)] at k
    repeat (first
     | refine h.al fun _ _ h=>?_
     | refine q02 ?_
     | refine⟨fun _=>trivial,?_⟩
     | refine⟨_,h.rd 0 rfl _,?_⟩
     | refine⟨_,h.rd 1 rfl _,?_⟩
     | refine h.st 0 rfl rfl fun _ h=>?_
     | refine h.st 1 rfl rfl fun _ h=>?_
     | refine⟨_,_,_,h.rds 0 rfl rfl,?_⟩
     | refine⟨_,_,_,h.rds 1 rfl rfl,?_⟩
     | refine⟨_,_,h.rds 0 rfl rfl,?_⟩
     | refine⟨_,_,h.rds 1 rfl rfl,?_⟩
     | refine⟨_,fun _=>h.rd 0 rfl _,?_⟩
     | refine⟨_,fun _=>h.rd 1 rfl _,?_⟩
     | refine⟨_,_,_,fun _=>h.rds 0 rfl rfl,?_⟩
     | refine⟨_,_,_,fun _=>h.rds 1 rfl rfl,?_⟩
     | refine⟨_,_,fun _=>h.rds 0 rfl rfl,?_⟩
     | refine⟨_,_,fun _=>h.rds 1 rfl rfl,?_⟩)
    refine Mid_spec (g:=x) h fun H' h=>⟨_,rfl,h.rds 1 rfl rfl,?_⟩
    refine qai (g:=g) h fun H' h=>⟨_,rfl,?_⟩
    exact k _ h.tl.tl
   rw [if_neg (by simpa using hc)] at k;refine⟨fun hc=>?_,fun hc=>?_⟩
   ·rw [if_pos (by simpa using hc)] at k;exact k _ h.tl.tl
   ·rw [if_neg (by simpa using hc)] at k;exact k _ h.tl.tl
end
end Go.Proofs.YtfmkddccnjidmaaGreatDoor
namespace Go.Nm
def ckA (b:Nat)(c:Ck):Assn:=exS fun p:Option Addr × Nat=>cellsA b [.int .i64 c.rho,.int .i64 c.least,.bool c.held,.int .i64 c.streak,.slice p.1 c.smps.length p.2] 205*slA 43 4 p.1 c.smps.length p.2 (flat q5u c.smps)
theorem q3p {H:Heap}{b:Nat}{c:Ck}{L:List Assn}:SatL H (ckA b c::L)↔∃a k,SatL H (cellsA b [.int .i64 c.rho,.int .i64 c.least,.bool c.held,.int .i64 c.streak,.slice a c.smps.length k] 205::slA 43 4 a c.smps.length k (flat q5u c.smps)::L):=by
 unfold ckA;rw [q0r]
 constructor
 ·rintro⟨p,h⟩; exact⟨p.1,p.2,q2m.1 h⟩
 ·rintro⟨a,k,h⟩; exact⟨(a,k),q2m.2 h⟩
theorem rdS.subK {H:Heap}{a:Option Addr}{cs:List Value}{k c sz:Nat}(h:rdS H a cs)(hc:cs.length≤c*sz):rdS H (slB a k c sz) (cs.drop (k*sz)):=by
 intro j v hj;have hj2:lget cs (k*sz+j)=Option.some v:=by
  rw [q1c] at hj ⊢;rw [List.getElem?_drop] at hj;exact hj
 obtain⟨h1,h2⟩:=h (k*sz+j) v hj2;have hlt:=qbg hj2;have hne:c≠k:=by rintro rfl; omega
 have e:slB a k c sz=Option.some ⟨adrB a,adrO a+k*sz,none⟩:=by
  unfold slB;rw [if_neg (by omega),h1,z62,q47]; rfl
 rw [e];refine⟨rfl,?_⟩;show q00 H (adrB a) (adrO a+k*sz+j)=Option.some v;rw [z6e]; exact h2
end Go.Nm
namespace Go.Proofs.YtfmkddccnjidmaaGreatDoor
open Go.Nm
theorem z2d:SlT Tryz.prog 166 43 4 32:=qbf (by kernel_rfl)
theorem sl239:SlT Tryz.prog 239 53 2 16:=qbf (by kernel_rfl)
section
variable {F L:List Assn} {H:Heap} {K:Value→Heap→Prop}
theorem isTime_spec {t:Int}:q1o Tryz.prog 166 #[I64 t] H (.bool (decide (isTm t))):=by
 refine qbq.call ⟨congrArg Value.bool ?_,rfl⟩;rw [z65];simp only [z56,z52,isTm]
theorem qk7 {t:Int}:q1o Tryz.prog 116 #[I64 t] H (.bool (decide (q3o t))):=by
 refine qbs.call ⟨congrArg Value.bool ?_,rfl⟩;rw [z65];simp only [z56,z52,q3o]
theorem qaj {s:Smp}(h:SatL H F)(k:∀H',SatL H' F→K (.bool (decide s.ok)) H'):CF 98 #[aggSm s] H K:=by
 refine q3s.call ?_;unfold q3s.code;refine h.al fun b _ h=>?_
 refine⟨_,h.rd 0 rfl _,_,isTime_spec,_,fun _=>h.rd 0 rfl _,_,fun _=>isTime_spec,_,fun _=>h.rd 0 rfl _,_,fun _=>isTime_spec,_,fun _=>h.rd 0 rfl _,_,fun _=>isTime_spec,_,fun _=>h.rd 0 rfl _,_,fun _=>h.rd 0 rfl _,_,fun _=>h.rd 0 rfl _,_,fun _=>h.rd 0 rfl _,?_⟩
 have:=k _ h.tl;have e:decide s.ok=(((((decide (isTm s.asked) && decide (isTm s.got)) && decide (isTm s.sent)) && decide (isTm s.came)) && (decide (s.asked≤s.came))) && (decide (s.got≤s.sent))):=by
  rw [z65];simp only [z56,z52]
  constructor
  ·rintro⟨h1,h2,h3,h4,h5,h6⟩; exact⟨⟨⟨⟨⟨h1,h2⟩,h3⟩,h4⟩,h5⟩,h6⟩
  ·rintro⟨⟨⟨⟨⟨h1,h2⟩,h3⟩,h4⟩,h5⟩,h6⟩; exact⟨h1,h2,h3,h4,h5,h6⟩
 rw [e] at this;exact this
theorem qil {s:Smp}{stamp rho:Int}(h:SatL H F)(k:∀H',SatL H' F→K (.tuple #[aggG (qb4 s stamp rho).1,I64 (qb4 s stamp rho).2]) H') :
  CF 140 #[aggSm s,I64 stamp,I64 rho] H K:=by
 refine q1h.call ?_;unfold q1h.code;refine h.al fun b0 _ h=>?_
 refine h.al fun b1 _ h=>?_
 refine⟨_,_,_,_,h.rds 1 rfl rfl,?_⟩;unfold qb4 at k;refine qaj (s:=s) h fun H' h=>⟨_,rfl,fun hc=>?_,fun hc=>?_⟩
 ·have:¬s.ok:=by simpa using hc
  rw [if_pos this] at k
  repeat (first
   | refine h.al fun _ _ h=>?_
   | refine q02 ?_
   | refine⟨fun _=>trivial,?_⟩
   | refine⟨_,h.rd 0 rfl _,?_⟩
   | refine⟨_,h.rd 1 rfl _,?_⟩
   | refine h.st 0 rfl rfl fun _ h=>?_
   | refine h.st 1 rfl rfl fun _ h=>?_
   | refine⟨_,_,h.rds 0 rfl rfl,?_⟩
   | refine⟨_,_,h.rds 1 rfl rfl,?_⟩
   | refine⟨_,fun _=>h.rd 0 rfl _,?_⟩
   | refine⟨_,fun _=>h.rd 1 rfl _,?_⟩
   | refine⟨_,_,fun _=>h.rds 0 rfl rfl,?_⟩
   | refine⟨_,_,fun _=>h.rds 1 rfl rfl,?_⟩)
  exact k _ h.tl.tl
 ·have hs:s.ok:=by simpa using hc
  rw [if_neg (by simpa using hs)] at k;have hwf:=hs.wf;refine⟨_,isTime_spec,_,fun _=>qk7,fun hc=>?_,fun hc=>?_⟩
  ·have:¬isTm stamp∨¬q3o rho:=by
    simp only [z5h,z5k,z58] at hc; exact hc
   rw [if_pos this] at k
   repeat (first
    | refine h.al fun _ _ h=>?_
    | refine q02 ?_
    | refine⟨fun _=>trivial,?_⟩
    | refine⟨_,h.rd 0 rfl _,?_⟩
    | refine⟨_,h.rd 1 rfl _,?_⟩
    | refine h.st 0 rfl rfl fun _ h=>?_
    | refine h.st 1 rfl rfl fun _ h=>?_
    | refine⟨_,_,h.rds 0 rfl rfl,?_⟩
    | refine⟨_,_,h.rds 1 rfl rfl,?_⟩
    | refine⟨_,fun _=>h.rd 0 rfl _,?_⟩
    | refine⟨_,fun _=>h.rd 1 rfl _,?_⟩
    | refine⟨_,_,fun _=>h.rds 0 rfl rfl,?_⟩
    | refine⟨_,_,fun _=>h.rds 1 rfl rfl,?_⟩)
   exact k _ h.tl.tl
  ·have ht:¬(¬isTm stamp∨¬q3o rho):=by
    simp only [z5g,z67,z52] at hc;rintro (h|h)
    ·exact h hc.1
    ·exact h hc.2
   rw [if_neg ht] at k;have htm:isTm stamp:=by
    rcases Classical.em (isTm stamp) with h|h
    ·exact h
    ·exact absurd (.inl h) ht
   dsimp only at k;have hsk:=hs;unfold Smp.ok isTm at hs;unfold isTm at htm
   repeat (first
    | refine h.al fun _ _ h=>?_
    | refine q02 ?_
    | refine⟨fun _=>trivial,?_⟩
    | refine⟨_,h.rd 0 rfl _,?_⟩
    | refine⟨_,h.rd 1 rfl _,?_⟩
    | refine h.st 0 rfl rfl fun _ h=>?_
    | refine h.st 1 rfl rfl fun _ h=>?_
    | refine⟨_,fun _=>h.rd 0 rfl _,?_⟩
    | refine⟨_,fun _=>h.rd 1 rfl _,?_⟩)
   rw [w64 (x:=stamp - s.got) (by omega) (by omega)];refine qwc (by unfold wf64; omega) ⟨_,_,rfl,?_⟩
   repeat (first
    | refine h.al fun _ _ h=>?_
    | refine q02 ?_
    | refine⟨fun _=>trivial,?_⟩
    | refine⟨_,h.rd 0 rfl _,?_⟩
    | refine⟨_,h.rd 1 rfl _,?_⟩
    | refine h.st 0 rfl rfl fun _ h=>?_
    | refine h.st 1 rfl rfl fun _ h=>?_
    | refine⟨_,fun _=>h.rd 0 rfl _,?_⟩
    | refine⟨_,fun _=>h.rd 1 rfl _,?_⟩)
   rw [w64 (x:=stamp - s.sent) (by omega) (by omega)];refine z29 (by unfold wf64; omega) ⟨_,_,rfl,?_⟩;refine⟨_,h.rd 1 rfl _,_,h.rd 1 rfl _,_,_,qwb hwf.2.2.2 (highS_wf _ _),?_⟩;have last:∀hi:Int,hi=(if (addS s.came (qr1 (stamp - s.sent) rho).1).2≠0 then 4611686018427387903 else (addS s.came (qr1 (stamp - s.sent) rho).1).1)→q1h.r1 K b1 (lowS (stamp - s.got) rho).1 s.asked hi H':=by
    intro hi he;rw [← he] at k;unfold q1h.r1;refine⟨fun hc=>?_,fun hc=>?_⟩
    ·rw [if_pos (by simpa using hc)] at k
     repeat (first
      | refine h.al fun _ _ h=>?_
      | refine q02 ?_
      | refine⟨fun _=>trivial,?_⟩
      | refine⟨_,h.rd 0 rfl _,?_⟩
      | refine⟨_,h.rd 1 rfl _,?_⟩
      | refine h.st 0 rfl rfl fun _ h=>?_
      | refine h.st 1 rfl rfl fun _ h=>?_
      | refine⟨_,_,h.rds 0 rfl rfl,?_⟩
      | refine⟨_,_,h.rds 1 rfl rfl,?_⟩
      | refine⟨_,fun _=>h.rd 0 rfl _,?_⟩
      | refine⟨_,fun _=>h.rd 1 rfl _,?_⟩
      | refine⟨_,_,fun _=>h.rds 0 rfl rfl,?_⟩
      | refine⟨_,_,fun _=>h.rds 1 rfl rfl,?_⟩)
     exact k _ h.tl.tl
    ·rw [if_neg (by simpa using hc)] at k
     repeat (first
      | refine h.al fun _ _ h=>?_
      | refine q02 ?_
      | refine⟨fun _=>trivial,?_⟩
      | refine⟨_,h.rd 0 rfl _,?_⟩
      | refine⟨_,h.rd 1 rfl _,?_⟩
      | refine h.st 0 rfl rfl fun _ h=>?_
      | refine h.st 1 rfl rfl fun _ h=>?_
      | refine⟨_,_,h.rds 0 rfl rfl,?_⟩
      | refine⟨_,_,h.rds 1 rfl rfl,?_⟩
      | refine⟨_,fun _=>h.rd 0 rfl _,?_⟩
      | refine⟨_,fun _=>h.rd 1 rfl _,?_⟩
      | refine⟨_,_,fun _=>h.rds 0 rfl rfl,?_⟩
      | refine⟨_,_,fun _=>h.rds 1 rfl rfl,?_⟩)
     exact k _ h.tl.tl
   refine fun Jn hJ=>⟨fun hc=>hJ _ _ (last _ ?_),fun hc=>hJ _ _ (last _ ?_)⟩
   ·rw [if_pos (by simpa using hc)]
   ·rw [if_neg (by simpa using hc)]
theorem qml {rho least:Int}(h:SatL H F)(k1:¬(q3o rho∧0≤least∧least≤100)→K (.tuple #[.pointer none,I64 11]) H)
  (k2:q3o rho∧0≤least∧least≤100→∀b H',SatL H' (ckA b ⟨rho,least,false,0,[]⟩::F)→K (.tuple #[.pointer (some ⟨b,0,none⟩),I64 0]) H') :
  CF 53 #[I64 rho,I64 least] H K:=by
 refine qfd.call ?_;unfold qfd.code;refine⟨_,qk7,fun hc=>k1 ?_,fun hc=>?_⟩
 ·simp only [z5h,z5k,z58,z52] at hc;rintro⟨h1,h2,h3⟩
  rcases hc with (h|h)|h
  ·exact h h1
  ·omega
  ·omega
 ·simp only [z5g,z67,z52,z58] at hc;have h:=h.sl_nil 43 4;refine h.al fun b _ h=>?_
  exact k2 ⟨hc.1.1,by omega,by omega⟩ _ _ (q3p.2 ⟨none,0,h⟩)
theorem qbu {b:Nat}{c:Ck}(h:SatL H (ckA b c::F)):q1o Tryz.prog 70 #[.pointer (some ⟨b,0,none⟩)] H (.bool c.held):=by
 obtain⟨a,n,h⟩:=q3p.1 h;exact qgn.call ⟨_,h.rd 0 rfl _,rfl,rfl⟩
theorem qtz {b:Nat}{c:Ck}(h:SatL H (ckA b c::F)):q1o Tryz.prog 125 #[.pointer (some ⟨b,0,none⟩)] H (I64 c.streak):=by
 obtain⟨a,n,h⟩:=q3p.1 h;exact qbr.call ⟨_,h.rd 0 rfl _,rfl,rfl⟩
theorem qmm {a:Option Addr}{c:Nat}{l:List Smp}(h:SatL H F)(ha:∀H,SatL H F→rdS H a (flat q5u l))(hl:l.length≤1000000)
  (k:∀a' c' H',SatL H' (slA 43 4 a' l.length c' (flat q5u l)::F)→K (.slice a' l.length c') H'):CF 155 #[.slice a l.length c] H K:=by
 refine q4x.call ⟨fun hc=>?_,fun hc=>?_⟩
 ·have:a=none:=by simpa using hc
  subst this;have hz:=qcm (ha H h);have:l=[]:=by
   have:=congrArg List.length hz;rw [q0m q2p] at this;exact z6r (by simp at this; omega)
  subst this;exact k none 0 H (h.sl_nil 43 4)
 ·refine h.al fun b _ h=>?_
  have hr:=ha _ h.tl;have h1:=SatL.sl_pt (cs:=[]) h 4 0 rfl;refine SatL.append (m:=l.length) z2d h1 0 rfl hr (q0m q2p l) (q64 qe2 l) (by omega) (by omega) fun a' c' H' h2=>⟨_,_,_,rfl,?_⟩
  have h3:SatL H' (slA 43 4 a' (0+l.length) c' ([]++flat q5u l)::F):=h2;rw [z5p,z6l] at h3;have:=k a' c' H' h3;simpa using this
theorem qr4 {a:Option Addr}{c:Nat}{l:List Smp}{j:Nat}(hj:j≤l.length)(h:SatL H (slA 43 4 a l.length c (flat q5u l)::F))
  (k:∀H',SatL H' (slA 43 4 a (l.length - j) c (flat q5u (l.drop j))::F)→K (.slice a (l.length - j) c) H'):CF 139 #[.slice a l.length c,I64 0,I64 j] H K:=by
 have hnc:=h.sl_nc 0 rfl;refine q30.call ?_;unfold q30.code;refine⟨⟨by omega,by omega,by omega,by omega⟩,fun hc=>?_,fun hc=>?_⟩
 ·have:j=0:=by simp only [z52] at hc; omega
  subst this;exact k H h
 ·have hj0:0 < j:=by simp only [z58] at hc; omega
  refine⟨⟨by omega,by omega,by omega⟩,⟨by omega,by omega,by omega⟩,?_⟩;have hr:=h.sl_rd 0 rfl;have hs:=hr.some q2p (by omega) (k:=0) (by omega);have e0:slB a 0 c 4=a:=by
   unfold slB;rw [if_neg (by omega),hs,z62,q47]; simp
  have hw:=hr.subK (k:=j) (c:=c) (sz:=4) (by rw [q0m q2p]; omega);rw [qjp q2p] at hw;have ht:=h.sl_take 0 rfl 0 (by omega);simp only [Nat.zero_mul,List.take_zero] at ht;rw [e0];show RunW Tryz.prog (Builtin.append_ #[166,166] 166 #[.slice a 0 c,.slice (slB a j c 4) (l.length - j) (c - j)]) H _;refine SatL.appendIn z2d ht 0 rfl hw (by rw [q0m q2p,z5u]) (q64 qe2 _) (by omega) fun H' h2=>⟨_,_,_,rfl,⟨by omega,by omega,by omega⟩,?_⟩
  rw [z5p];have h3:SatL H' (slA 43 4 a (0+(l.length - j)) c ([]++flat q5u (l.drop j))::F):=h2;rw [z5p,z6l] at h3;exact SatL.clearS z2d (by kernel_rfl) h3 0 rfl (by omega) fun _ H4 h4=>k _ h4
theorem qbv {b:Nat}{c:Ck}(h:SatL H (ckA b c::F))(hl:c.smps.length≤1000000)
  (k:∀a' c' H',SatL H' (slA 43 4 a' c.smps.length c' (flat q5u c.smps)::ckA b c::F)→K (.slice a' c.smps.length c') H'):CF 84 #[.pointer (some ⟨b,0,none⟩)] H K:=by
 obtain⟨a,n,h⟩:=q3p.1 h;refine qa9.call ⟨_,_,_,h.rd 0 rfl _,?_⟩;refine qmm h (fun H h=>h.sl_rd 1 rfl) hl fun a' c' H' h=>⟨_,_,_,rfl,k _ _ _ ?_⟩
 have h:=h.o [1,2,0] 3;have h:=q3p.2 ⟨_,_,h⟩;exact h.o [1,0] 2
theorem qys {b:Nat}{c:Ck}{held:Bool}{streak:Int}{a0:Option Addr}{n0:Nat}{l:List Smp}(h:SatL H (ckA b c::F))(ha:∀H,SatL H F→rdS H a0 (flat q5u l))
  (k1:¬(l.length≤8∧0≤streak∧∀s∈l,s.ok)→∀H',SatL H' (ckA b c::F)→K (I64 10) H')
  (k2:(l.length≤8∧0≤streak∧∀s∈l,s.ok)→∀H',SatL H' (ckA b ⟨c.rho,c.least,held,streak,l⟩::F)→K (I64 0) H') :
  CF 106 #[.pointer (some ⟨b,0,none⟩),.bool held,I64 streak,.slice a0 l.length n0] H K:=by
 refine q88.call ?_;unfold q88.code;refine⟨fun hc=>k1 ?_ _ h,fun hc=>?_⟩
 ·simp only [z5h,z52] at hc;omega
 ·have hc':l.length≤8∧0≤streak:=by simp only [z5g,z58] at hc; omega
  refine⟨fun i H'=>∃j:Nat,i=j∧j≤l.length∧(∀s∈l.take j,s.ok)∧SatL H' (ckA b c::F),fun i _=>l.length - i.toNat,⟨0,rfl,z5s _,fun _ hs=>by simp at hs,h⟩,?_⟩
  rintro i H1 ⟨j,rfl,hj,hok,h⟩;unfold q88.l1;refine⟨fun hc=>?_,fun hc=>?_⟩
  ·have hlt:j < l.length:=by simpa using hc
   have hr:=ha _ h.tl;refine⟨⟨by omega,by omega⟩,_,_,hr.some q2p (by omega) hlt,_,_,_,_,hr.els q2p hlt,?_⟩
   repeat (first
    | refine h.al fun _ _ h=>?_
    | refine q02 ?_
    | refine⟨fun _=>trivial,?_⟩
    | refine⟨_,h.rd 0 rfl _,?_⟩
    | refine h.st 0 rfl rfl fun _ h=>?_
    | refine⟨_,_,_,_,h.rds 0 rfl rfl,?_⟩
    | refine⟨_,fun _=>h.rd 0 rfl _,?_⟩
    | refine⟨_,_,_,_,fun _=>h.rds 0 rfl rfl,?_⟩)
   refine qaj (s:=l[j]) h fun H2 h=>⟨_,rfl,fun hc2=>?_,fun hc2=>?_⟩
   ·have:¬(l[j]).ok:=by simpa using hc2
    exact k1 (fun hh=>this (hh.2.2 _ (z5e hlt))) _ h.tl
   ·have hok2:(l[j]).ok:=by simpa using hc2
    have hw:i64.wrap ((j:Int)+1)=((j+1:Nat):Int):=by rw [w64 (by omega) (by omega)]; omega
    rw [hw];refine⟨⟨j+1,rfl,hlt,fun s hs=>?_,h.tl⟩,by simp only [z5a]; omega⟩
    rw [List.take_add_one,List.getElem?_eq_getElem hlt] at hs
    rcases z6g.1 hs with hs|hs
    ·exact hok s hs
    ·simp at hs; rw [hs]; exact hok2
  ·have hge:l.length≤j:=by simpa using hc
   rw [z5o hge] at hok;obtain⟨a,n,h⟩:=q3p.1 h;refine qmm h (fun H h=>ha H h.tl.tl) (by omega) fun a' c' H' h=>⟨_,_,_,rfl,?_⟩
   repeat (first
    | refine h.al fun _ _ h=>?_
    | refine q02 ?_
    | refine⟨fun _=>trivial,?_⟩
    | refine⟨_,h.rd 0 rfl _,?_⟩
    | refine⟨_,h.rd 1 rfl _,?_⟩
    | refine h.st 0 rfl rfl fun _ h=>?_
    | refine h.st 1 rfl rfl fun _ h=>?_
    | refine⟨_,fun _=>h.rd 0 rfl _,?_⟩
    | refine⟨_,fun _=>h.rd 1 rfl _,?_⟩)
   refine k2 ⟨hc'.1,hc'.2,hok⟩ _ ?_;have h:=h.o [1,0] 3;exact q3p.2 ⟨_,_,h⟩
end
end Go.Proofs.YtfmkddccnjidmaaGreatDoor
namespace Go.Nm
theorem dn {p:Prop}[Decidable p](h:(!decide p)=true):¬p:=by simpa using h
theorem dy {p:Prop}[Decidable p](h:(!decide p)=false):p:=by simpa using h
end Go.Nm
namespace Go.Proofs.YtfmkddccnjidmaaGreatDoor
open Go.Nm
section
variable {F L:List Assn} {H:Heap} {K:Value→Heap→Prop}
theorem z2e {b:Nat}{c:Ck}{stamp:Int}(hl8:c.smps.length≤8)(h:SatL H (ckA b c::F))
  (k:∀H',SatL H' (ckA b c::F)→K (.tuple #[aggG (ckAt c stamp).1,I64 (ckAt c stamp).2]) H') :
  CF 158 #[.pointer (some ⟨b,0,none⟩),I64 stamp] H K:=by
 obtain⟨a,n,h⟩:=q3p.1 h;refine q6z.call ?_;unfold q6z.code;unfold ckAt at k;refine h.al fun b0 _ h=>?_
 refine⟨_,_,_,h.rd 1 rfl _,fun hc=>?_,fun hc=>?_⟩
 ·have:c.smps=[]:=by simpa using hc
  rw [if_pos this] at k
  repeat (first
   | refine h.al fun _ _ h=>?_
   | refine q02 ?_
   | refine⟨fun _=>trivial,?_⟩
   | refine⟨_,h.rd 0 rfl _,?_⟩
   | refine h.st 0 rfl rfl fun _ h=>?_
   | refine⟨_,_,h.rds 0 rfl rfl,?_⟩
   | refine⟨_,fun _=>h.rd 0 rfl _,?_⟩
   | refine⟨_,_,fun _=>h.rds 0 rfl rfl,?_⟩)
  exact k _ (q3p.2 ⟨_,_,h.tl⟩)
 have hne:c.smps≠[]:=by simpa using hc
 rw [if_neg hne] at k;refine⟨_,isTime_spec,fun hc=>?_,fun hc=>?_⟩
 ·have:¬isTm stamp:=dn hc;rw [if_pos this] at k
  repeat (first
   | refine h.al fun _ _ h=>?_
   | refine q02 ?_
   | refine⟨fun _=>trivial,?_⟩
   | refine⟨_,h.rd 0 rfl _,?_⟩
   | refine h.st 0 rfl rfl fun _ h=>?_
   | refine⟨_,_,h.rds 0 rfl rfl,?_⟩
   | refine⟨_,fun _=>h.rd 0 rfl _,?_⟩
   | refine⟨_,_,fun _=>h.rds 0 rfl rfl,?_⟩)
  exact k _ (q3p.2 ⟨_,_,h.tl⟩)
 have htm:isTm stamp:=dy hc;rw [if_neg (not_not_intro htm)] at k;refine⟨_,_,_,h.rd 1 rfl _,?_⟩;refine h.mk0 sl239 (by omega) (by omega) fun ga H3 h=>⟨_,_,_,rfl,_,_,_,h.rd 2 rfl _,?_⟩
 refine⟨fun ga gn gc i H'=>∃(j:Nat) (gs:List Gp),i=j∧j≤c.smps.length∧gn=gs.length∧gs.length=j∧
   qlo c.rho stamp c.smps=(gs++(qlo c.rho stamp (c.smps.drop j)).1,(qlo c.rho stamp (c.smps.drop j)).2)∧
   SatL H' (slA 53 2 ga gs.length gc (flat encG gs)::cellsA b0 [I64 0,I64 0] 53::cellsA b [I64 c.rho,I64 c.least,.bool c.held,I64 c.streak,.slice a c.smps.length n] 205::slA 43 4 a c.smps.length n (flat q5u c.smps)::F),
  fun _ _ _ i _=>c.smps.length - i.toNat,⟨0,[],rfl,z5s _,rfl,rfl,rfl,h⟩,?_⟩
 rintro ga gn gc i H4 ⟨j,gs,rfl,hj,rfl,hgj,e,h⟩;unfold q6z.l2;refine⟨fun hc=>?_,fun hc=>?_⟩
 ·have hlt:j < c.smps.length:=by simpa using hc
  have hr:=h.sl_rd 3 rfl;rw [z6h hlt,qlo] at e;refine⟨⟨by omega,by omega⟩,_,_,hr.some q2p (by omega) hlt,_,_,_,_,hr.els q2p hlt,?_⟩
  repeat (first
   | refine h.al fun _ _ h=>?_
   | refine q02 ?_
   | refine⟨fun _=>trivial,?_⟩
   | refine⟨_,h.rd 0 rfl _,?_⟩
   | refine h.st 0 rfl rfl fun _ h=>?_
   | refine⟨_,fun _=>h.rd 0 rfl _,?_⟩)
  refine fun Jn hJ=>?_
  have fin:∀gb H7,SatL H7 (cellsA gb (encG (qb4 c.smps[j] stamp c.rho).1) 53::slA 53 2 ga gs.length gc (flat encG gs)::cellsA b0 [I64 0,I64 0] 53::cellsA b [I64 c.rho,I64 c.least,.bool c.held,I64 c.streak,.slice a c.smps.length n] 205::slA 43 4 a c.smps.length n (flat q5u c.smps)::F)→Jn gb 0 (qb4 c.smps[j] stamp c.rho).2 H7:=by
   intro gb H7 h;refine hJ _ _ _ _ ?_;unfold q6z.r1;refine⟨fun hc=>?_,fun hc=>?_⟩
   ·have he:(qb4 c.smps[j] stamp c.rho).2≠0:=by simpa using hc
    rw [if_pos he] at e;rw [e,if_pos he] at k
    repeat (first
     | refine h.al fun _ _ h=>?_
     | refine q02 ?_
     | refine⟨fun _=>trivial,?_⟩
     | refine⟨_,h.rd 0 rfl _,?_⟩
     | refine⟨_,h.rd 1 rfl _,?_⟩
     | refine⟨_,h.rd 2 rfl _,?_⟩
     | refine h.st 0 rfl rfl fun _ h=>?_
     | refine h.st 1 rfl rfl fun _ h=>?_
     | refine h.st 2 rfl rfl fun _ h=>?_
     | refine⟨_,_,h.rds 0 rfl rfl,?_⟩
     | refine⟨_,_,h.rds 1 rfl rfl,?_⟩
     | refine⟨_,_,h.rds 2 rfl rfl,?_⟩
     | refine⟨_,fun _=>h.rd 0 rfl _,?_⟩
     | refine⟨_,fun _=>h.rd 1 rfl _,?_⟩
     | refine⟨_,fun _=>h.rd 2 rfl _,?_⟩
     | refine⟨_,_,fun _=>h.rds 0 rfl rfl,?_⟩
     | refine⟨_,_,fun _=>h.rds 1 rfl rfl,?_⟩
     | refine⟨_,_,fun _=>h.rds 2 rfl rfl,?_⟩)
    exact k _ (q3p.2 ⟨_,_,h.tl.tl.tl⟩)
   ·have he:¬(qb4 c.smps[j] stamp c.rho).2≠0:=by simpa using hc
    rw [if_neg he] at e;refine⟨_,_,h.rds 0 rfl rfl,?_⟩;rintro b3 _ rfl rfl;refine h.append1 sl239 1 rfl rfl rfl (by omega) (by omega) fun a' c' H' h=>⟨_,_,_,rfl,?_⟩
    have hw:i64.wrap ((j:Int)+1)=((j+1:Nat):Int):=by rw [w64 (by omega) (by omega)]; omega
    rw [hw];have h:=h.tl;refine⟨⟨j+1,gs++[(qb4 c.smps[j] stamp c.rho).1],rfl,hlt,by simp,by simp [hgj],?_,?_⟩,by simp only [z5a]; omega⟩
    ·rw [e,z5d]; rfl
    ·rw [q0i,q8y,z51];exact h
  refine⟨_,_,_,_,h.rds 0 rfl rfl,_,h.rd 3 rfl _,?_,?_⟩
  ·refine qil (s:=c.smps[j]) h fun H' h=>⟨_,_,_,rfl,?_⟩
   repeat (first
    | refine h.al fun _ _ h=>?_
    | refine q02 ?_
    | refine⟨fun _=>trivial,?_⟩
    | refine⟨_,h.rd 0 rfl _,?_⟩
    | refine h.st 0 rfl rfl fun _ h=>?_
    | refine⟨_,fun _=>h.rd 0 rfl _,?_⟩)
   exact fin _ _ (h.o [0] 2)
  ·refine h.al fun b5 _ h=>?_
   refine⟨h.rd 4 rfl _,h.rds 1 rfl rfl,?_⟩;refine qil (s:=c.smps[j]) h fun H' h=>⟨_,_,_,rfl,?_⟩
   repeat (first
    | refine h.al fun _ _ h=>?_
    | refine q02 ?_
    | refine⟨fun _=>trivial,?_⟩
    | refine⟨_,h.rd 0 rfl _,?_⟩
    | refine h.st 0 rfl rfl fun _ h=>?_
    | refine⟨_,fun _=>h.rd 0 rfl _,?_⟩)
   exact fin _ _ (h.o [0] 2)
 ·have hge:c.smps.length≤j:=by simpa using hc
  rw [z7v hge,qlo,z61] at e;rw [e,if_neg (fun hh=>hh rfl)] at k
  refine qbt (gs:=gs) h (fun H h=>h.sl_rd 0 rfl) (by omega) fun H' h=>⟨_,_,_,rfl,?_⟩
  repeat (first
   | refine h.al fun _ _ h=>?_
   | refine q02 ?_
   | refine⟨fun _=>trivial,?_⟩
   | refine⟨_,h.rd 0 rfl _,?_⟩
   | refine⟨_,h.rd 1 rfl _,?_⟩
   | refine h.st 0 rfl rfl fun _ h=>?_
   | refine h.st 1 rfl rfl fun _ h=>?_
   | refine⟨_,_,h.rds 0 rfl rfl,?_⟩
   | refine⟨_,_,h.rds 1 rfl rfl,?_⟩
   | refine⟨_,fun _=>h.rd 0 rfl _,?_⟩
   | refine⟨_,fun _=>h.rd 1 rfl _,?_⟩
   | refine⟨_,_,fun _=>h.rds 0 rfl rfl,?_⟩
   | refine⟨_,_,fun _=>h.rds 1 rfl rfl,?_⟩)
  exact k _ (q3p.2 ⟨_,_,h.tl.tl⟩)
theorem qu0 {a:Option Addr}{c n:Nat}{gs:List Gp}(hn:gs.length=n)(h:SatL H F)(ha:∀H,SatL H F→rdS H a (flat encG gs))(hl:n≤1000000)
  (k:∀H',SatL H' F→K (.bool (qhh gs)) H') :
  CF 141 #[.slice a n c] H K:=by
 subst hn;exact qyq h ha hl k
theorem qyt {b:Nat}{c:Ck}{s:Smp}(ok:CkOk c)(h:SatL H (ckA b c::F))
  (k:∀H',SatL H' (ckA b (qgq c s).1::F)→K (I64 (qgq c s).2) H') :
  CF 68 #[.pointer (some ⟨b,0,none⟩),aggSm s] H K:=by
 obtain⟨a,n,h⟩:=q3p.1 h;have hl8:=ok.len;have hst:=ok.st;refine q0l.call ?_;unfold q0l.code;unfold qgq at k;refine h.al fun b0 _ h=>?_
 refine⟨_,_,_,_,h.rds 0 rfl rfl,?_⟩;refine qaj (s:=s) h fun H' h=>⟨_,rfl,fun hc=>?_,fun hc=>?_⟩
 ·have:¬s.ok:=by simpa using hc
  rw [if_pos this] at k;exact k _ (q3p.2 ⟨_,_,h.tl⟩)
 have hs:s.ok:=by simpa using hc
 rw [if_neg (by simpa using hs)] at k;refine⟨_,_,_,h.rd 1 rfl _,_,_,_,_,h.rds 0 rfl rfl,?_⟩;rintro b1 _ rfl rfl;have hcell:=(h.push (.cells #[I64 s.asked,I64 s.got,I64 s.sent,I64 s.came] 43 (0,0))).rd 2 rfl 4;refine⟨hcell,?_⟩;refine h.append1 z2d 2 rfl rfl rfl (by omega) (by omega) fun a1 c1 H1 h=>⟨_,_,_,rfl,?_⟩
 have ef:flat q5u c.smps++[I64 s.asked,I64 s.got,I64 s.sent,I64 s.came]=flat q5u (c.smps++[s]):=by rw [q0i,q8y]
 rw [ef] at h;have hlS:∀x∈(if 8 < c.smps.length+1 then (c.smps++[s]).drop 1 else c.smps++[s]),x.ok:=by
  intro x hx;have:x∈c.smps++[s]:=by
   split at hx
   ·exact z7c hx
   ·exact hx
  rcases z6g.1 this with h1|h1
  ·exact ok.ok x h1
  ·rw [z60] at h1; rw [h1]; exact hs
 have rest:∀(l:List Smp) (a2:Option Addr) (c2:Nat) (H5:Heap),l.length≤8→l.getLast?=some s→(∀H',
    SatL H' (ckA b (if qhh (l.map (qb5 c.rho s.sent)) then
     ({ c with streak:=if c.streak < 9223372036854775807 then c.streak+1 else c.streak,held:=if c.least≤(if c.streak < 9223372036854775807 then c.streak+1 else c.streak) then false else c.held,smps:=l },(0:Int))
     else ({ c with held:=true,streak:=0,smps:=if (qb5 c.rho s.sent s).ok then [s] else [] },21)).1::F)→
    K (I64 (if qhh (l.map (qb5 c.rho s.sent)) then
     ({ c with streak:=if c.streak < 9223372036854775807 then c.streak+1 else c.streak,held:=if c.least≤(if c.streak < 9223372036854775807 then c.streak+1 else c.streak) then false else c.held,smps:=l },(0:Int))
     else ({ c with held:=true,streak:=0,smps:=if (qb5 c.rho s.sent s).ok then [s] else [] },21)).2) H')→
   SatL H5 (cellsA b0 [I64 s.asked,I64 s.got,I64 s.sent,I64 s.came] 43::cellsA b [I64 c.rho,I64 c.least,.bool c.held,I64 c.streak,.slice a2 l.length c2] 205::slA 43 4 a2 l.length c2 (flat q5u l)::F)→
   q0l.r7 b 0 K b0 H5:=by
  intro l a2 c2 H5 hl8 hlast k h;unfold q0l.r7;refine⟨_,_,_,h.rd 1 rfl _,?_⟩;refine h.mk0 sl239 (by omega) (by omega) fun ga H6 h=>⟨_,_,_,rfl,_,_,_,h.rd 2 rfl _,?_⟩
  refine⟨fun ga gn gc i H'=>∃(j:Nat),i=j∧j≤l.length∧j=gn∧
    SatL H' (slA 53 2 ga j gc (flat encG ((l.take j).map (qb5 c.rho s.sent)))::cellsA b0 [I64 s.asked,I64 s.got,I64 s.sent,I64 s.came] 43::cellsA b [I64 c.rho,I64 c.least,.bool c.held,I64 c.streak,.slice a2 l.length c2] 205::slA 43 4 a2 l.length c2 (flat q5u l)::F),
   fun _ _ _ i _=>l.length - i.toNat,⟨0,rfl,z5s _,rfl,h⟩,?_⟩
  rintro ga gn gc i H7 ⟨j,rfl,hj,rfl,h⟩;unfold q0l.l6;refine⟨fun hc=>?_,fun hc=>?_⟩
  ·have hlt:j < l.length:=by simpa using hc
   have hr:=h.sl_rd 3 rfl;refine⟨⟨by omega,by omega⟩,_,_,hr.some q2p (by omega) hlt,_,_,_,_,hr.els q2p hlt,?_⟩
   repeat (first
    | refine h.al fun _ _ h=>?_
    | refine q02 ?_
    | refine⟨fun _=>trivial,?_⟩
    | refine⟨_,h.rd 0 rfl _,?_⟩
    | refine h.st 0 rfl rfl fun _ h=>?_
    | refine⟨_,fun _=>h.rd 0 rfl _,?_⟩)
   refine fun Jn hJ=>?_
   have fin:∀gb H10,SatL H10 (cellsA gb (encG (qb4 l[j] s.sent c.rho).1) 53::slA 53 2 ga j gc (flat encG ((l.take j).map (qb5 c.rho s.sent)))::cellsA b0 [I64 s.asked,I64 s.got,I64 s.sent,I64 s.came] 43::cellsA b [I64 c.rho,I64 c.least,.bool c.held,I64 c.streak,.slice a2 l.length c2] 205::slA 43 4 a2 l.length c2 (flat q5u l)::F)→Jn gb 0 (qb4 l[j] s.sent c.rho).2 H10:=by
    intro gb H10 h;refine hJ _ _ _ _ ?_;unfold q0l.r2;refine fun Jn2 hJ2=>?_
    have fin2:∀H11,SatL H11 (cellsA gb (encG (qb5 c.rho s.sent l[j])) 53::slA 53 2 ga j gc (flat encG ((l.take j).map (qb5 c.rho s.sent)))::cellsA b0 [I64 s.asked,I64 s.got,I64 s.sent,I64 s.came] 43::cellsA b [I64 c.rho,I64 c.least,.bool c.held,I64 c.streak,.slice a2 l.length c2] 205::slA 43 4 a2 l.length c2 (flat q5u l)::F)→Jn2 H11:=by
     intro H11 h;refine hJ2 _ ?_;unfold q0l.r1;refine⟨_,_,h.rds 0 rfl rfl,?_⟩;rintro b4 _ rfl rfl;refine h.append1 sl239 1 rfl rfl rfl (by omega) (by omega) fun a' c' H' h=>⟨_,_,_,rfl,?_⟩
     have hw:i64.wrap ((j:Int)+1)=((j+1:Nat):Int):=by rw [w64 (by omega) (by omega)]; omega
     rw [hw];have h:=h.tl;refine⟨⟨j+1,rfl,hlt,rfl,?_⟩,by simp only [z5a]; omega⟩;rw [List.take_add_one,List.getElem?_eq_getElem hlt,z5v,q0i];rw [Option.toList_some,List.map_singleton,q8y];exact h
    refine⟨fun hc=>?_,fun hc=>?_⟩
    ·have he:(qb4 l[j] s.sent c.rho).2≠0:=by simpa using hc
     have eg:qb5 c.rho s.sent l[j]=⟨1,0⟩:=by unfold qb5; rw [if_pos he]
     repeat (first
      | refine h.al fun _ _ h=>?_
      | refine q02 ?_
      | refine⟨fun _=>trivial,?_⟩
      | refine⟨_,h.rd 0 rfl _,?_⟩
      | refine h.st 0 rfl rfl fun _ h=>?_
      | refine⟨_,fun _=>h.rd 0 rfl _,?_⟩)
     refine fin2 _ ?_;rw [eg]; exact h
    ·have he:¬(qb4 l[j] s.sent c.rho).2≠0:=by simpa using hc
     have eg:qb5 c.rho s.sent l[j]=(qb4 l[j] s.sent c.rho).1:=by unfold qb5; rw [if_neg he]
     refine fin2 _ ?_;rw [eg]; exact h
   refine⟨_,_,_,_,h.rds 0 rfl rfl,_,h.rd 2 rfl _,_,h.rd 3 rfl _,?_,?_⟩
   ·refine qil (s:=l[j]) h fun H' h=>⟨_,_,_,rfl,?_⟩
    repeat (first
     | refine h.al fun _ _ h=>?_
     | refine q02 ?_
     | refine⟨fun _=>trivial,?_⟩
     | refine⟨_,h.rd 0 rfl _,?_⟩
     | refine h.st 0 rfl rfl fun _ h=>?_
     | refine⟨_,fun _=>h.rd 0 rfl _,?_⟩)
    exact fin _ _ (h.o [0] 2)
   ·refine h.al fun b5 _ h=>?_
    refine⟨h.rd 4 rfl _,h.rd 3 rfl _,h.rds 1 rfl rfl,?_⟩;refine qil (s:=l[j]) h fun H' h=>⟨_,_,_,rfl,?_⟩
    repeat (first
     | refine h.al fun _ _ h=>?_
     | refine q02 ?_
     | refine⟨fun _=>trivial,?_⟩
     | refine⟨_,h.rd 0 rfl _,?_⟩
     | refine h.st 0 rfl rfl fun _ h=>?_
     | refine⟨_,fun _=>h.rd 0 rfl _,?_⟩)
    exact fin _ _ (h.o [0] 2)
  ·have hge:l.length≤j:=by simpa using hc
   obtain rfl:j=l.length:=by omega
   rw [z5o (z5c _)] at h;have hlen:(l.map (qb5 c.rho s.sent)).length=l.length:=z5q _;have hne:0 < l.length:=by
    cases l with
    | nil=>simp at hlast
    | cons x r=>simp
   have hla:l[l.length - 1]=s:=by
    rw [List.getLast?_eq_getElem?,List.getElem?_eq_getElem (by omega)] at hlast;exact Option.some.inj hlast
   refine qu0 hlen h (fun H h=>h.sl_rd 0 rfl) (by omega) fun H21 h=>⟨_,rfl,fun hag=>?_,fun hag=>?_⟩
   ·rw [if_pos hag] at k;refine⟨_,h.rd 2 rfl _,fun Jn3 hJ3=>?_⟩
    have fin3:∀(st:Int) H22,st=(if c.streak < 9223372036854775807 then c.streak+1 else c.streak)→SatL H22 (slA 53 2 ga l.length gc (flat encG (l.map (qb5 c.rho s.sent)))::cellsA b0 [I64 s.asked,I64 s.got,I64 s.sent,I64 s.came] 43::cellsA b [I64 c.rho,I64 c.least,.bool c.held,I64 st,.slice a2 l.length c2] 205::slA 43 4 a2 l.length c2 (flat q5u l)::F)→Jn3 H22:=by
     intro st H22 est h;refine hJ3 _ ?_;unfold q0l.r4;rw [← est] at k;refine⟨_,h.rd 2 rfl _,_,h.rd 2 rfl _,fun Jn4 hJ4=>⟨fun hc=>?_,fun hc=>?_⟩⟩
     ·rw [if_pos (by simpa using hc)] at k;refine h.st 2 rfl rfl fun H24 h=>hJ4 _ ?_
      exact k _ (q3p.2 ⟨_,_,h.tl.tl⟩)
     ·rw [if_neg (by simpa using hc)] at k;exact hJ4 _ (k _ (q3p.2 ⟨_,_,h.tl.tl⟩))
    refine⟨fun hc=>?_,fun hc=>?_⟩
    ·have hlt:c.streak < 9223372036854775807:=by simpa using hc
     refine⟨_,h.rd 2 rfl _,?_⟩;refine h.st 2 rfl rfl fun H25 h=>fin3 _ _ ?_ h
     rw [if_pos hlt,w64 (by omega) (by omega)]
    ·have hlt:¬c.streak < 9223372036854775807:=by simpa using hc
     exact fin3 _ _ (by rw [if_neg hlt]) h
   ·rw [if_neg (by rw [hag]; decide)] at k;refine h.st 2 rfl rfl fun H26 h=>?_
    refine h.st 2 rfl rfl fun H27 h=>?_
    refine h.st 2 rfl rfl fun H28 h=>?_
    have hw:i64.wrap ((l.length:Int) - 1)=((l.length - 1:Nat):Int):=by rw [w64 (by omega) (by omega)]; omega
    rw [hw];have hr:=h.sl_rd 0 rfl;have hels:=hr.els qik (k:=l.length - 1) (by omega);rw [z6o,hla] at hels;refine⟨⟨by omega,by omega⟩,_,_,hr.some qik (by omega) (k:=l.length - 1) (by omega),_,_,hels,?_⟩;refine q6m (g:=qb5 c.rho s.sent s) h fun H29 h=>⟨_,rfl,fun Jn5 hJ5=>⟨fun hc=>?_,fun hc=>?_⟩⟩
    ·rw [if_pos (by simpa using hc)] at k;refine⟨_,_,_,_,h.rds 1 rfl rfl,?_⟩;refine h.al fun b8 _ h=>?_
     refine h.st 3 rfl rfl fun H32 h=>hJ5 _ ?_
     unfold q0l.r5;have h:=h.o [0,3] 5;have h:=SatL.sl_pt h 4 1 rfl;have h:=h.o [1,0] 2;exact k _ (q3p.2 ⟨_,_,h⟩)
    ·rw [if_neg (by simpa using hc)] at k;refine hJ5 _ ?_;unfold q0l.r5;have h:=h.o [2] 4;have h:=(h.sl_nil 43 4).o [1,0] 2;exact k _ (q3p.2 ⟨_,_,h⟩)
 refine h.st 1 rfl rfl fun H2 h=>?_
 have hlast0:(c.smps++[s]).getLast?=some s:=by simp
 refine⟨_,_,_,h.rd 1 rfl _,fun Jn hJ=>⟨fun hc=>?_,fun hc=>?_⟩⟩
 ·have h9:8 < c.smps.length+1:=by have:=z4z hc; omega
  rw [if_pos h9] at k;refine⟨_,_,_,h.rd 1 rfl _,?_⟩;have h:=h.o [2,0,1] 3;have hlen:c.smps.length+1=(c.smps++[s]).length:=by simp
  rw [hlen] at h ⊢;refine qr4 (j:=1) (by simp) h fun H33 h=>⟨_,_,_,rfl,?_⟩
  refine h.st 2 rfl rfl fun H34 h=>hJ _ ?_
  have h:=h.o [1,2,0] 3;have hd:(c.smps++[s]).length - 1=((c.smps++[s]).drop 1).length:=by simp
  rw [hd] at h;refine rest _ _ _ _ (by simp; omega) ?_ k h;have h8:c.smps≠[]:=by rintro e; rw [e] at h9; simp at h9
  rw [List.drop_append_of_le_length (by omega),List.getLast?_append];simp
 ·have h9:¬8 < c.smps.length+1:=by have:=z54 hc; omega
  rw [if_neg h9] at k;refine hJ _ ?_;have hlen:c.smps.length+1=(c.smps++[s]).length:=by simp
  rw [hlen] at h;exact rest _ _ _ _ (by simp; omega) hlast0 k h
end
end Go.Proofs.YtfmkddccnjidmaaGreatDoor
namespace Go.Nm
structure Lab where
 name:ByteArray
 value:ByteArray
abbrev encL (l:Lab):List Value:=[.string l.name,.string l.value]
theorem q2d (l:Lab):(encL l).length=2:=rfl
theorem qgr (l:Lab):q07 (encL l)=true:=rfl
structure Ev where
 stamp:Int
 value:Int
 name:ByteArray
 labs:List Lab
 la:Option Addr
 lc:Nat
def Ev.z:Ev:=⟨0,0,⟨#[]⟩,[],none,0⟩
abbrev encV (e:Ev):List Value:=[I64 e.stamp,I64 e.value,.string e.name,.slice e.la e.labs.length e.lc]
abbrev aggV (e:Ev):Value:=.agg #[I64 e.stamp,I64 e.value,.string e.name,.slice e.la e.labs.length e.lc]
theorem q14 (e:Ev):(encV e).length=4:=rfl
theorem qmn (e:Ev):q07 (encV e)=true:=rfl
end Go.Nm
namespace Go.Proofs.YtfmkddccnjidmaaGreatDoor
open Go.Nm
theorem sl44:SlT Tryz.prog 44 95 4 56:=qbf (by kernel_rfl)
theorem sl91:SlT Tryz.prog 91 267 2 32:=qbf (by kernel_rfl)
theorem qu1:MapT Tryz.prog 209 2 95 aggV Ev.z:=qjs Tryz.underlying209 (by kernel_rfl)
theorem ko2:qo7 Tryz.prog 2 I64:=qjn Tryz.underlying2
abbrev holdC (hb mb:Nat)(next most:Int):Assn:=cellsA hb [I64 next,I64 most,.map (some mb)] 211
abbrev mapV (mb:Nat)(l:RowL Ev):Assn:=mapA I64 aggV mb l
section
variable {hb mb:Nat} {s:HS Ev} {F:List Assn} {H:Heap} {K:Value→Heap→Prop}
theorem z2f {next most:Int}(h:SatL H F)
  (k1:next < 0∨1099511627776 < next∨most < 1∨256 < most→K (.tuple #[.pointer none,I64 11]) H)
  (k2:∀hb mb H',0≤next∧next≤1099511627776∧1≤most∧most≤256→SatL H' (holdC hb mb next most::mapV mb []::F)→K (.tuple #[PA hb 0,I64 0]) H') :
  CF 56 #[I64 next,I64 most] H K:=by
 refine qog.call ⟨fun hc=>k1 ?_,fun hc=>?_⟩
 ·simp only [z5h,z52] at hc; omega
 ·simp only [z5g,z58] at hc;refine h.alm I64 aggV fun mb _ h=>?_
  refine h.al fun hb _ h=>?_
  exact k2 _ _ _ (by omega) h
theorem qyu {next most:Int}(h:SatL H F)(i:Nat)(hA:nth i F=holdC hb mb next most):q1o Tryz.prog 82 #[PA hb 0] H (I64 next):=
 qjy.call ⟨_,h.rd i hA _,rfl,rfl⟩
theorem qyv {first:Int}{ia:Option Addr}{ic:Nat}{items:List Ev}(h:SatL H (holdC hb mb s.next s.most::mapV mb s.rows::F))(ok:s.Ok)(hn:s.next≤1125899906842624)
  (hF:∀H,SatL H F→rdS H ia (flat encV items)) (hlen:items.length≤1000000)
  (k:∀a c H',SatL H' (slA 95 4 a (s.offer first items).2.1.length c (flat encV (s.offer first items).2.1)::holdC hb mb (s.offer first items).1.next s.most::mapV mb (s.offer first items).1.rows::F)→
   K (.tuple #[.slice a (s.offer first items).2.1.length c,I64 (s.offer first items).2.2]) H') :
  CF 145 #[PA hb 0,I64 first,.slice ia items.length ic] H K:=by
 refine q0w.call ?_;unfold q0w.code;have hm1:=ok.most1;have hm2:=ok.most2;have hn0:=ok.next0;refine⟨fun hc=>?_,fun hc=>?_⟩
 ·simp only [z5h,z52] at hc;have e:s.offer first items=(s,[],(items.length:Int)):=by unfold HS.offer; rw [if_pos hc]
  rw [e] at k;exact k none 0 H (h.sl_nil 95 4)
 ·simp only [z5g,z58] at hc;have e:s.offer first items=({ s with next:=(pop s.next (q34 s.next s.most first items (s.rows,0)).1).2.1,rows:=(pop s.next (q34 s.next s.most first items (s.rows,0)).1).2.2 },
    (pop s.next (q34 s.next s.most first items (s.rows,0)).1).1,(q34 s.next s.most first items (s.rows,0)).2):=by
   unfold HS.offer; rw [if_neg (by omega)]
  rw [e] at k;refine⟨fun refused t25 H'=>∃(j:Nat) (rows:RowL Ev),t25=j∧j≤items.length∧q4w s.next s.next s.most rows∧0≤refused∧refused≤j∧
   q34 s.next s.most (first+j) (items.drop j) (rows,refused)=q34 s.next s.most first items (s.rows,0)∧SatL H' (holdC hb mb s.next s.most::mapV mb rows::F),
   fun _ i _=>items.length - i.toNat,⟨0,s.rows,rfl,z5s _,ok.rows.weaken (by omega) (z5z _),z5z _,by simp,by simp,h⟩,?_⟩
  rintro refused t25 H1 ⟨j,rows,rfl,hj,hok,hr0,hr1,hoff,h⟩;unfold q0w.l4;refine⟨fun hc2=>?_,fun hc2=>?_⟩
  ·have hlt:j < items.length:=by simpa using hc2
   have hrd:=hF H1 h.tl.tl;have e1:i64.wrap (first+j)=first+j:=w64 (by omega) (by omega);have e2:i64.wrap (s.next+s.most)=s.next+s.most:=w64 (by omega) (by omega);have e3:i64.wrap ((j:Int)+1)=((j+1:Nat):Int):=w64 (by omega) (by omega);have e4:i64.wrap (refused+1)=refused+1:=w64 (by omega) (by omega);have hdrop:items.drop j=items[j]::items.drop (j+1):=z6h hlt;rw [hdrop,q34] at hoff;have hok2:=qqn (n:=first+j) (v:=items[j]) (s:=(rows,refused)) hok;have hre:=qy9 (next:=s.next) (most:=s.most) (n:=first+j) (v:=items[j]) (s:=(rows,refused)) hr0;rw [e1];refine⟨⟨by omega,by omega⟩,_,_,hrd.some q14 (by omega) hlt,_,_,_,_,_,_,hrd.els q14 hlt,?_⟩
   repeat (first
    | refine h.al fun _ _ h=>?_
    | refine q02 ?_
    | refine⟨fun _=>trivial,?_⟩
    | refine⟨_,h.rd 0 rfl _,?_⟩
    | refine h.st 0 rfl rfl fun _ h=>?_
    | refine⟨_,fun _=>h.rd 0 rfl _,?_⟩)
   have close:∀H2 (A B M:Assn),M=mapV mb (q2e s.next s.most (first+j) items[j] (rows,refused)).1→SatL H2 (A::B::holdC hb mb s.next s.most::M::F)→
     ∃(j':Nat) (rows':RowL Ev),((j+1:Nat):Int)=j'∧j'≤items.length∧q4w s.next s.next s.most rows'∧0≤(q2e s.next s.most (first+j) items[j] (rows,refused)).2∧(q2e s.next s.most (first+j) items[j] (rows,refused)).2≤j'∧
     q34 s.next s.most (first+j') (items.drop j') (rows',(q2e s.next s.most (first+j) items[j] (rows,refused)).2)=q34 s.next s.most first items (s.rows,0)∧SatL H2 (holdC hb mb s.next s.most::mapV mb rows'::F):=
    fun H2 _ _ _ hM h2=>⟨j+1,_,rfl,hlt,hok2,by simp only at hre; omega,by simp only at hre; omega,by rw [← hoff]; congr 1; omega,by rw [← hM]; exact h2.tl.tl⟩
   refine⟨_,h.rd 1 rfl _,?_⟩;have hgt:=h.mp_get qu1 ko2 2 rfl (x:=first+j);refine⟨_,_,_,_,_,_,_,hgt,?_⟩
   repeat (first
    | refine h.al fun _ _ h=>?_
    | refine q02 ?_
    | refine⟨fun _=>trivial,?_⟩
    | refine⟨_,h.rd 0 rfl _,?_⟩
    | refine⟨_,h.rd 1 rfl _,?_⟩
    | refine⟨_,h.rd 2 rfl _,?_⟩
    | refine h.st 0 rfl rfl fun _ h=>?_
    | refine h.st 1 rfl rfl fun _ h=>?_
    | refine h.st 2 rfl rfl fun _ h=>?_
    | refine⟨_,fun _=>h.rd 0 rfl _,?_⟩
    | refine⟨_,fun _=>h.rd 1 rfl _,?_⟩
    | refine⟨_,fun _=>h.rd 2 rfl _,?_⟩)
   refine fun Jn hJ=>⟨fun hc3=>hJ _ _ ?_,fun hc3=>?_⟩
   ·have eo:q2e s.next s.most (first+j) items[j] (rows,refused)=(rows,refused):=by
     unfold q2e;rw [if_pos];simp only [z5h,z52] at hc3;exact hc3
    rw [eo] at close;unfold q0w.r1; rw [e3]; exact⟨close _ _ _ _ rfl h,by simp only [z5a]; omega⟩
   ·simp only [z5g,z58] at hc3;have hl:q08 (first+j) rows=none:=by
     cases hm:q08 (first+j) rows with
     | none=>rfl
     | some u=>rw [hm] at hc3; exact absurd hc3.2 (by simp)
    repeat (first
     | refine h.al fun _ _ h=>?_
     | refine q02 ?_
     | refine⟨fun _=>trivial,?_⟩
     | refine⟨_,h.rd 0 rfl _,?_⟩
     | refine⟨_,h.rd 1 rfl _,?_⟩
     | refine⟨_,h.rd 2 rfl _,?_⟩
     | refine h.st 0 rfl rfl fun _ h=>?_
     | refine h.st 1 rfl rfl fun _ h=>?_
     | refine h.st 2 rfl rfl fun _ h=>?_
     | refine⟨_,fun _=>h.rd 0 rfl _,?_⟩
     | refine⟨_,fun _=>h.rd 1 rfl _,?_⟩
     | refine⟨_,fun _=>h.rd 2 rfl _,?_⟩)
    rw [e2,e4];refine fun Jn1 hJ1=>⟨fun hc4=>hJ1 _ _ ?_,fun hc4=>?_⟩
    ·simp only [z52] at hc4;have eo:q2e s.next s.most (first+j) items[j] (rows,refused)=(rows,refused+1):=by unfold q2e; rw [if_neg (by simp [hl]; omega),if_pos hc4]
     rw [eo] at close;unfold q0w.r2;refine hJ _ _ ?_;unfold q0w.r1; rw [e3]; exact⟨close _ _ _ _ rfl h,by simp only [z5a]; omega⟩
    ·simp only [z58] at hc4;have eo:q2e s.next s.most (first+j) items[j] (rows,refused)=(ins (first+j) items[j] rows,refused):=by unfold q2e; rw [if_neg (by simp [hl]; omega),if_neg hc4]
     rw [eo] at close
     repeat (first
      | refine h.al fun _ _ h=>?_
      | refine q02 ?_
      | refine⟨fun _=>trivial,?_⟩
      | refine⟨_,h.rd 0 rfl _,?_⟩
      | refine⟨_,h.rd 1 rfl _,?_⟩
      | refine⟨_,h.rd 2 rfl _,?_⟩
      | refine h.st 0 rfl rfl fun _ h=>?_
      | refine h.st 1 rfl rfl fun _ h=>?_
      | refine h.st 2 rfl rfl fun _ h=>?_
      | refine⟨_,_,_,_,_,_,h.rds 0 rfl rfl,?_⟩
      | refine⟨_,_,_,_,_,_,h.rds 1 rfl rfl,?_⟩
      | refine⟨_,_,_,_,_,_,h.rds 2 rfl rfl,?_⟩
      | refine⟨_,fun _=>h.rd 0 rfl _,?_⟩
      | refine⟨_,fun _=>h.rd 1 rfl _,?_⟩
      | refine⟨_,fun _=>h.rd 2 rfl _,?_⟩
      | refine⟨_,_,_,_,_,_,fun _=>h.rds 0 rfl rfl,?_⟩
      | refine⟨_,_,_,_,_,_,fun _=>h.rds 1 rfl rfl,?_⟩
      | refine⟨_,_,_,_,_,_,fun _=>h.rds 2 rfl rfl,?_⟩)
     refine h.mp_update (x:=first+j) (v:=items[j]) qu1 ko2 3 rfl fun H2 h2=>hJ1 _ _ ?_
     unfold q0w.r2;refine hJ _ _ ?_;have ep:mapV mb (mset (first+j) items[j] rows)=mapV mb (ins (first+j) items[j] rows):=q82 (by rw [mset,q17 hl]; exact (qo8 _ _ _).symm);unfold q0w.r1; rw [e3]; exact⟨close _ _ _ _ ep h2,by simp only [z5a]; omega⟩
  ·have hge:j=items.length:=by
    have:¬((j:Int) < (items.length:Int)):=by simpa using hc2
    omega
   subst hge;simp only [z6z,q34] at hoff;rw [← hoff] at k;simp only at k;have hps:=qo9 hok.rising fun p hp=>(hok.inb p hp).1
   have hlen2:=hok.length;refine⟨fun ra rn rc rf H'=>∃(got:List Ev) (next:Int) (rows':RowL Ev),rn=got.length∧rf=refused∧q4n rows'∧(∀p∈rows',next≤p.1)∧(pop s.next rows).1=got++(pop next rows').1∧(pop s.next rows).2=(pop next rows').2∧
    0≤next∧next+rows'.length≤s.next+rows.length∧got.length+rows'.length=rows.length∧SatL H' (slA 95 4 ra rn rc (flat encV got)::holdC hb mb next s.most::mapV mb rows'::F),
    fun _ n _ _ _=>rows.length - n,⟨[],s.next,rows,rfl,rfl,hok.rising,fun p hp=>(hok.inb p hp).1,by simp,by simp,by omega,by omega,by simp,h.sl_nil 95 4⟩,?_⟩
   rintro ra rn rc rf H2 ⟨got,next,rows',rfl,rfl,hri,hge,hp1,hp2,hn1,hn2,hgl,h⟩;unfold q0w.l3;refine⟨_,h.rd 1 rfl _,_,h.rd 1 rfl _,?_⟩;have hml:=qya (next:=next) hri hge;have e5:i64.wrap (next+1)=next+1:=w64 (by omega) (by omega);refine⟨_,_,_,_,_,_,_,h.mp_get qu1 ko2 2 rfl (x:=next),?_⟩;refine h.al fun b3 _ h=>?_
   refine⟨h.mp_get qu1 ko2 3 rfl (x:=next),h.rd 2 rfl _,h.rd 2 rfl _,?_⟩;refine h.st 0 rfl rfl fun H3 h=>?_
   cases rows' with
   | nil=>
    simp only at hml;refine⟨fun _=>?_,fun hc3=>by simp [hml] at hc3⟩
    simp only [pop,z61] at hp1 hp2;rw [hp1,hp2] at k;exact k _ _ _ h.tl
   | cons p r=>
    obtain⟨n,v⟩:=p;simp only at hml
    by_cases en:n=next
    ·subst en;rw [if_pos rfl] at hml;rw [hml] at h ⊢;refine⟨fun hc3=>by simp at hc3,fun _=>?_⟩
     refine⟨_,h.rd 2 rfl _,_,h.rd 2 rfl _,?_⟩;refine h.mp_delete (x:=n) qu1 ko2 3 rfl fun H3 h=>?_
     have h:SatL H3 (cellsA b3 (encV v) 95::slA 95 4 ra got.length rc (flat encV got)::holdC hb mb n s.most::mapV mb (mdel n ((n,v)::r))::F):=h;rw [z1m hri] at h;simp only [z59] at hn2 hgl;refine⟨_,_,_,_,_,_,h.rds 0 rfl rfl,?_⟩;rintro b4 _ rfl rfl;refine h.append1 sl44 1 rfl (by rfl) (by rfl) (by omega) (by omega) fun a' c' H4 h=>⟨_,_,_,rfl,?_⟩
     refine⟨_,h.rd 2 rfl _,?_⟩;refine h.st 2 rfl rfl fun H5 h=>?_
     refine⟨?_,by show rows.length - (got.length+1) < rows.length - got.length; omega⟩;rw [e5] at h;simp only [pop,if_true] at hp1 hp2;refine⟨got++[v],n+1,r,by simp,rfl,(z6s.1 hri).2,fun p hp=>?_,by rw [hp1]; simp,hp2,by omega,by omega,by simp; omega,?_⟩
     ·have:=(z6s.1 hri).1 p hp; simp only at this; omega
     ·rw [q0i,q8y]; exact h.tl
    ·rw [if_neg en] at hml;refine⟨fun _=>?_,fun hc3=>by simp [hml] at hc3⟩
     simp only [pop,if_neg en,z61] at hp1 hp2;rw [hp1,hp2] at k;exact k _ _ _ h.tl
theorem qhi {next most:Int}{rows:RowL Ev}(h:SatL H (holdC hb mb next most::mapV mb rows::F))(hr:q4n rows)(hw:∀p∈rows,wf64 p.1)(hl:rows.length≤1000000)
  (k:∀a c H',SatL H' (slA 2 1 a rows.length c ((q03 rows).map I64)::holdC hb mb next most::mapV mb rows::F)→K (.slice a rows.length c) H') :
  CF 83 #[PA hb 0] H K:=by
 refine qbo.call ⟨_,h.rd 0 rfl _,?_⟩;refine qyj ⟨_,_,rfl,?_⟩;refine qqy h 1 rfl (fun x hx=>by obtain⟨p,hp,rfl⟩:=z5b.1 hx; exact hw p hp) (by omega) fun a c H' h2 g=>⟨_,_,_,rfl,?_⟩
 rw [qyb hr] at h2;exact k a c H' h2
theorem qyw {next most:Int}{rows:RowL Ev}(h:SatL H (holdC hb mb next most::mapV mb rows::F))(hr:q4n rows)(hw:∀p∈rows,wf64 p.1)(hl:rows.length≤1000000)
  (k:∀a c H',SatL H' (slA 95 4 a rows.length c (flat encV (rows.map (·.2)))::holdC hb mb next most::mapV mb []::F)→K (.slice a rows.length c) H') :
  CF 126 #[PA hb 0] H K:=by
 refine q6a.call ?_;unfold q6a.code;refine qhi h hr hw hl fun ra rc H1 h=>⟨_,_,_,rfl,?_⟩
 refine⟨fun la ln lc i H'=>∃k:Nat,i=k∧k=ln∧k≤rows.length∧SatL H' (slA 95 4 la k lc (flat encV ((rows.take k).map (·.2)))::slA 2 1 ra rows.length rc ((q03 rows).map I64)::holdC hb mb next most::mapV mb rows::F),
  fun _ _ _ i _=>rows.length - i.toNat,⟨0,rfl,rfl,z5s _,h.sl_nil 95 4⟩,?_⟩
 rintro la ln lc i H2 ⟨j,rfl,rfl,hj,h⟩;unfold q6a.l1;refine⟨fun hc=>?_,fun hc=>?_⟩
 ·have hlt:j < rows.length:=by simpa using hc
  have hltk:j < (q03 rows).length:=by simpa [q03] using hlt
  have hrd:=(h.sl_rd 1 rfl).at (j:=j) hltk;have e3:i64.wrap ((j:Int)+1)=((j+1:Nat):Int):=w64 (by omega) (by omega);have hml:q08 (q03 rows)[j] rows=some rows[j].2:=q2k (qqm hr) (by
   have:((q03 rows)[j],rows[j].2)=rows[j]:=by simp [q03]
   rw [this]; exact z5e _)
  have hg:=h.mp_get1 qu1 ko2 3 rfl (x:=(q03 rows)[j]);rw [hml] at hg;refine⟨⟨by omega,by omega⟩,_,_,hrd.1,_,hrd.2,_,h.rd 2 rfl _,_,_,_,_,_,_,hg,?_⟩;rintro b1 _ rfl rfl;refine h.append1 sl44 0 rfl (by rfl) (by rfl) (by omega) (by omega) fun a' c' H3 h=>⟨_,_,_,rfl,?_⟩
  rw [e3];refine⟨⟨j+1,rfl,rfl,hlt,?_⟩,by simp only [z5a]; omega⟩;rw [z6d hlt,z5v,q0i];exact h
 ·have:j=rows.length:=by
   have:¬((j:Int) < rows.length):=by simpa using hc
   omega
  subst this;refine⟨_,h.rd 2 rfl _,?_⟩;refine h.mp_clear qu1 3 rfl fun H3 h=>?_
  rw [z5o (z5c _)] at h;exact k _ _ _ (h.o [0,2,3] 4)
theorem qu2 {next most:Int}{rows:RowL Ev}(h:SatL H (holdC hb mb next most::mapV mb rows::F))
  (k:∀hb' mb' H',SatL H' (holdC hb' mb' next most::mapV mb' rows::holdC hb mb next most::mapV mb rows::F)→K (PA hb' 0) H') :
  CF 90 #[PA hb 0] H K:=by
 refine qcs.call ?_;unfold qcs.code;refine⟨_,h.rd 0 rfl _,_,h.rd 0 rfl _,_,h.rd 0 rfl _,?_⟩;refine qtq h 1 rfl fun H1 h _=>⟨_,rfl,h.rd 1 rfl _,h.rd 1 rfl _,?_⟩
 refine h.al fun b _ h=>?_
 exact k _ _ _ h
end
end Go.Proofs.YtfmkddccnjidmaaGreatDoor
namespace Go.Nm
theorem q91 (k:IntKind)(f:Nat→Int):∀n i,(vecL k f n i).length=n
 | 0,_=>rfl
 | n+1,i=>by simp [vecL,q91 k f n]
theorem qfh (k:IntKind)(f:Nat→Int):∀n i j,j < n→lget (vecL k f n i) j=some (.int k (f (i+j)))
 | n+1,i,0,_=>rfl
 | n+1,i,j+1,h=>by
  have:=qfh k f n (i+1) j (by omega);simp only [vecL,lget];rw [this,show i+1+j=i+(j+1) by omega]
theorem qmo (k:IntKind)(f:Nat→Int):∀n i,q07 (vecL k f n i)=true
 | 0,_=>rfl
 | n+1,i=>by
  have:=qmo k f n (i+1);simpa [vecL,q07] using this
def updN (f:Nat→Int)(j:Nat)(x:Int):Nat→Int:=fun i=>if i=j then x else f i
theorem qmp (k:IntKind){f g:Nat→Int}:∀n i,(∀j,i≤j→j < i+n→f j=g j)→vecL k f n i=vecL k g n i
 | 0,_,_=>rfl
 | n+1,i,h=>by
  simp only [vecL];rw [h i (z5c _) (by omega),qmp k n (i+1) fun j h1 h2=>h j (by omega) (by omega)]
theorem qou (k:IntKind)(f:Nat→Int)(x:Int):∀n i j,j < n→(vecL k f n i).set j (.int k x)=vecL k (updN f (i+j) x) n i
 | n+1,i,0,_=>by
  simp only [vecL,z7g,z71];rw [show updN f i x i=x by simp [updN],qmp k (g:=updN f i x) n (i+1) fun j h1 h2=>by simp [updN]; omega]
 | n+1,i,j+1,h=>by
  simp only [vecL,z7w];rw [qou k f x n (i+1) j (by omega),show i+1+j=i+(j+1) by omega];rw [show updN f (i+(j+1)) x i=f i by simp [updN]]
section
variable {H:Heap} {L:List Assn}
theorem SatL.rda {b e:Nat}{cs:List Value}(h:SatL H L)(i:Nat)(hA:nth i L=cellsA b cs e):q01 H b 0 cs:=
 q84 fun f v hf=>by rw [h.rd i hA,z5p]; exact hf
theorem SatL.rdv {b e o:Nat}{l vs r:List Value}(h:SatL H L)(i:Nat)(hA:nth i L=cellsA b (l++vs++r) e)(ho:o=l.length):q01 H b o vs:=
 q84 fun f v hf=>by
  subst ho;rw [h.rd i hA,z5d,q63,qax (qbg hf)]; exact hf
theorem SatL.rdt {b e o:Nat}{l vs:List Value}(h:SatL H L)(i:Nat)(hA:nth i L=cellsA b (l++vs) e)(ho:o=l.length):q01 H b o vs:=
 SatL.rdv (r:=[]) h i (by rw [hA,z61]) ho
theorem SatL.sta {Q:Heap→Prop}{b e:Nat}{vs cs:List Value}(h:SatL H L)(i:Nat)(hA:nth i L=cellsA b cs e)(hl:vs.length=cs.length)(k:∀H',SatL H' (put i (cellsA b vs e) L)→Q H') :
  q57 H b 0 vs∧∀H',H'=q7i H b 0 vs→Q H':=by
 refine⟨h.can i hA 0 vs (by omega),?_⟩;rintro H' rfl;have:=h.set i hA 0 vs;rw [qjq _ _ hl] at this;exact k _ this
end
theorem qyx {P:Program}{t e:TypeId}{n:Nat}{f:Nat→Int}{i:Int}(ht:P.underlying t=some (.array n e))(hz:∀w,(Go.sizeOf e).run P w=.ok 1 w)(ha:∀w,(Go.isAgg e).run P w=.ok false w)(h0:0≤i)(h1:i < n) :
  q5z P (Instr.index t (.agg ⟨vecL .i64 f n 0⟩) (I64 i)) (I64 (f i.toNat)):=by
 intro w;have hg:=qfh .i64 f n 0 i.toNat (by omega);rw [q1c] at hg;simp only [Instr.index,asIntOf,Sem.run_bind,Sem.run_pure,Result.andThen_ok,q06 ht];rw [if_pos ⟨h0,h1⟩];simp only [Sem.run_bind,hz,Result.andThen_ok,z6w,part,ha];simp [hg]
abbrev B64:Int:=18446744073709551616
abbrev whi (z:Int):Int:=z / B64
abbrev wlo (z:Int):Int:=z % B64
abbrev aggW (z:Int):Value:=.agg #[I64 (whi z),.int .u64 (wlo z)]
abbrev q8d (z:Int):Prop:=-170141183460469231731687303715884105728≤z∧z < 170141183460469231731687303715884105728
def wadd (a b:Int):Int × Int:=if q8d (a+b) then (a+b,0) else (0,12)
theorem q79 (z:Int):0≤wlo z∧wlo z < B64:=by unfold wlo B64; omega
theorem wz (z:Int):whi z*B64+wlo z=z:=by unfold whi wlo B64; omega
theorem weq {z y:Int}:(whi z=whi y∧wlo z=wlo y)↔z=y:=by
 constructor
 ·rintro⟨h1,h2⟩; rw [← wz z,← wz y,h1,h2]
 ·rintro rfl; exact⟨rfl,rfl⟩
def q0c (v:Int):Int:=if v < 0 then 0 else if v=0 then 1 else 1+(bitLen v.toNat:Nat)
theorem q7a {v:Int}(h:wf64 v):0≤q0c v∧q0c v < 65:=by
 unfold q0c wf64 at *
 split
 ·omega
 ·split
  ·omega
  ·have:bitLen v.toNat≤63:=by
    unfold bitLen
    split
    ·omega
    ·rename_i h0;have:=(Nat.log2_lt h0).2 (show v.toNat < 2 ^ 63 by omega);omega
   omega
def qfi (h:Nat→Int):Bool:=(List.range 65).all fun i=>decide (0≤h i)
theorem q6n {h:Nat→Int}:qfi h=true↔∀i,i < 65→0≤h i:=by
 simp [qfi,z69]
def addH (h:Nat→Int)(v:Int):(Nat→Int) × Int:=
 if qfi h=false then (Z0,10) else if h (q0c v).toNat=9223372036854775807 then (Z0,12) else (updN h (q0c v).toNat (h (q0c v).toNat+1),0)
def wfH (h:Nat→Int):Prop:=∀i,i < 65→wf64 (h i)
theorem z2g:wfH Z0:=fun _ _=>by unfold wf64; simp
end Go.Nm
namespace Go.Proofs.YtfmkddccnjidmaaGreatDoor
open Go.Nm
section
variable {F L:List Assn} {H:Heap} {K:Value→Heap→Prop}
theorem qr5 {x y:Int}(hx:0≤x)(hy:0≤y):qj1 Tryz.prog 198 #[.int .u64 x,.int .u64 y,.int .u64 0] (.tuple #[.int .u64 ((x+y) % B64),.int .u64 ((x+y) / B64)]):=by
 have e:(callFunc 198 #[.int .u64 x,.int .u64 y,.int .u64 0])=(callFunc 198 #[.int .u64 x,.int .u64 y,.int .u64 0]):=rfl;intro w;have h:(callFunc 198 #[.int .u64 x,.int .u64 y,.int .u64 0]).run Tryz.prog w=.ok (.value (.tuple #[.int .u64 (Int.ofNat ((x.toNat+y.toNat+0) % 18446744073709551616)),.int .u64 (Int.ofNat ((x.toNat+y.toNat+0) / 18446744073709551616))])) w:=by kernel_rfl
 rw [h];have e1:Int.ofNat ((x.toNat+y.toNat+0) % 18446744073709551616)=(x+y) % B64:=by unfold B64; simp only [Int.ofNat_eq_natCast]; omega
 have e2:Int.ofNat ((x.toNat+y.toNat+0) / 18446744073709551616)=(x+y) / B64:=by unfold B64; simp only [Int.ofNat_eq_natCast]; omega
 rw [e1,e2]
theorem idx60 {f:Nat→Int}{i:Int}(h0:0≤i)(h1:i < 65):q5z Tryz.prog (Instr.index 60 (.agg ⟨vecL .i64 f 65 0⟩) (I64 i)) (I64 (f i.toNat)):=
 qyx (n:=65) Tryz.underlying60 Tryz.sizeOf2 Tryz.isAgg2 h0 (by omega)
theorem qyy {f:Nat→Int}(h:SatL H F)(k:∀H',SatL H' F→K (.bool (qfi f)) H'):CF 282 #[.agg ⟨vecL .i64 f 65 0⟩] H K:=by
 refine q6d.call ?_;unfold q6d.code;refine h.al fun b _ h=>?_
 refine⟨f,h.rda 0 rfl,?_⟩;refine⟨fun i H'=>∃j:Nat,i=j∧j≤65∧(∀q,q < j→0≤f q)∧SatL H' F,fun i _=>65 - i.toNat,⟨0,rfl,by omega,fun _ h=>by omega,h.tl⟩,?_⟩
 rintro i H1 ⟨j,rfl,hj,hp,h⟩;unfold q6d.l1;refine⟨fun hc=>?_,fun hc=>?_⟩
 ·have hlt:j < 65:=by have:=z4z hc; omega
  refine⟨_,idx60 (by omega) (by omega),?_⟩;rw [z5a];refine⟨fun hn=>?_,fun hn=>?_⟩
  ·have hn:=z4z hn;have:qfi f=false:=by
    rw [z7q];intro hh;have:=q6n.1 hh j hlt;omega
   rw [this] at k;exact k _ h
  ·have hn:=z54 hn;rw [show i64.wrap ((j:Int)+1)=((j+1:Nat):Int) by rw [w64 (by omega) (by omega)]; omega];refine⟨⟨j+1,rfl,hlt,fun q hq=>?_,h⟩,by simp only [z5a]; omega⟩
   rcases z5r q j with h1|h1
   ·exact hp q h1
   ·obtain rfl:q=j:=by omega
    omega
 ·have:j=65:=by have:=z54 hc; omega
  subst this;have:qfi f=true:=q6n.2 hp;rw [this] at k;exact k _ h
theorem q2a {v:Int}(hv:wf64 v):q1o Tryz.prog 78 #[I64 v] H (I64 (q0c v)):=by
 refine qac.call ?_;unfold qac.code;have hb:=q7a hv;unfold q0c at hb ⊢;refine⟨fun hc=>?_,fun hc=>⟨fun hc2=>?_,fun hc2=>?_⟩⟩
 ·rw [if_pos (z4z hc)];exact⟨rfl,rfl⟩
 ·rw [if_neg (z54 hc),if_pos (z4z hc2)];exact⟨rfl,rfl⟩
 ·have h1:=z54 hc;have h2:=z54 hc2;rw [if_neg h1,if_neg h2] at hb ⊢;unfold wf64 at hv;have e:u64.wrap v=((v.toNat:Nat):Int):=by rw [u64e]; omega
  rw [e];refine⟨_,qmi (by omega),?_,rfl⟩;rw [w64 (x:=2+_) (by omega) (by omega),w64 (by omega) (by omega)];congr 1;omega
theorem whi_w {z:Int}(h:q8d z):wf64 (whi z):=by unfold q8d at h; unfold wf64 whi B64; omega
theorem fdiv63 {v:Int}(h:wf64 v):Int.fdiv v (2 ^ (min (Int.toNat 63) (i64.bits)))=whi v:=by
 show Int.fdiv v 9223372036854775808=whi v;rw [z7p _ (by decide)];unfold wf64 at h;unfold whi B64;omega
theorem qov {v:Int}(hv:wf64 v)(h:SatL H F)(k:∀H',SatL H' F→K (aggW v) H'):CF 77 #[I64 v] H K:=by
 refine qom.call ?_;unfold qom.code;refine h.al fun b _ h=>⟨by decide,?_⟩
 rw [fdiv63 hv];have e:u64.wrap v=wlo v:=by rw [u64e]
 rw [e]
 repeat (first
  | refine h.al fun _ _ h=>?_
  | refine q02 ?_
  | refine⟨fun _=>trivial,?_⟩
  | refine⟨_,h.rd 0 rfl _,?_⟩
  | refine h.st 0 rfl rfl fun _ h=>?_
  | refine⟨_,_,h.rds 0 rfl rfl,?_⟩
  | refine⟨_,fun _=>h.rd 0 rfl _,?_⟩
  | refine⟨_,_,fun _=>h.rds 0 rfl rfl,?_⟩)
 exact k _ h.tl
theorem qk8 {x y:Int}(hx:q8d x)(hy:q8d y)(h:SatL H F)(k:∀H',SatL H' F→K (.tuple #[aggW (wadd x y).1,I64 (wadd x y).2]) H') :
  CF 262 #[aggW x,aggW y] H K:=by
 refine qie.call ?_;unfold qie.code;have h1:=q79 x;have h2:=q79 y;have hx':=whi_w hx;have hy':=whi_w hy;have zx:=wz x;have zy:=wz y;have er:(wlo x+wlo y) % B64=wlo (x+y):=by unfold wlo B64; omega
 have eq:i64.wrap ((wlo x+wlo y) / B64)=(wlo x+wlo y) / B64:=by unfold B64 at *; exact w64 (by omega) (by omega)
 have eh:i64.wrap (i64.wrap (whi x+whi y)+(wlo x+wlo y) / B64)=i64.wrap (whi (x+y)):=by
  rw [i64e,i64e,i64e];unfold whi wlo B64;omega
 refine h.al fun b _ h=>?_
 refine h.al fun b1 _ h=>?_
 refine h.al fun b2 _ h=>?_
 refine⟨_,h.rd 2 rfl _,_,h.rd 1 rfl _,_,_,qr5 h1.1 h2.1,_,h.rd 2 rfl _,_,h.rd 1 rfl _,_,h.rd 2 rfl _,_,h.rd 1 rfl _,?_⟩;rw [eq,eh,er];have hover:decide (q0d .and .i64 (q0d .xor .i64 (whi x) (i64.wrap (whi (x+y)))) (q0d .xor .i64 (whi y) (i64.wrap (whi (x+y)))) < 0)=!decide (q8d (x+y)):=by
  rw [z65,z52,z1n (qey _ _ _) (qey _ _ _),z56,z52,z52,qoc hx' (qtm _),qoc hy' (qtm _),qob,qob,z5k,z58];unfold q8d at hx hy ⊢;rw [i64e];unfold whi B64;omega
 rw [hover];unfold wadd at k;refine⟨fun hc=>?_,fun hc=>?_⟩
 ·have:¬q8d (x+y):=z54 (by simpa only [z5k] using hc);rw [if_neg this] at k
  repeat (first
   | refine h.al fun _ _ h=>?_
   | refine q02 ?_
   | refine⟨fun _=>trivial,?_⟩
   | refine⟨_,h.rd 0 rfl _,?_⟩
   | refine⟨_,h.rd 1 rfl _,?_⟩
   | refine⟨_,h.rd 2 rfl _,?_⟩
   | refine h.st 0 rfl rfl fun _ h=>?_
   | refine h.st 1 rfl rfl fun _ h=>?_
   | refine h.st 2 rfl rfl fun _ h=>?_
   | refine⟨_,_,h.rds 0 rfl rfl,?_⟩
   | refine⟨_,_,h.rds 1 rfl rfl,?_⟩
   | refine⟨_,_,h.rds 2 rfl rfl,?_⟩
   | refine⟨_,fun _=>h.rd 0 rfl _,?_⟩
   | refine⟨_,fun _=>h.rd 1 rfl _,?_⟩
   | refine⟨_,fun _=>h.rd 2 rfl _,?_⟩
   | refine⟨_,_,fun _=>h.rds 0 rfl rfl,?_⟩
   | refine⟨_,_,fun _=>h.rds 1 rfl rfl,?_⟩
   | refine⟨_,_,fun _=>h.rds 2 rfl rfl,?_⟩)
  exact k _ h.tl.tl.tl
 ·have:q8d (x+y):=z4z (by simpa only [z67] using hc);rw [if_pos this] at k;have e:i64.wrap (whi (x+y))=whi (x+y):=by have:=whi_w this; unfold wf64 at this; exact w64 (by omega) (by omega)
  rw [e]
  repeat (first
   | refine h.al fun _ _ h=>?_
   | refine q02 ?_
   | refine⟨fun _=>trivial,?_⟩
   | refine⟨_,h.rd 0 rfl _,?_⟩
   | refine⟨_,h.rd 1 rfl _,?_⟩
   | refine⟨_,h.rd 2 rfl _,?_⟩
   | refine h.st 0 rfl rfl fun _ h=>?_
   | refine h.st 1 rfl rfl fun _ h=>?_
   | refine h.st 2 rfl rfl fun _ h=>?_
   | refine⟨_,_,h.rds 0 rfl rfl,?_⟩
   | refine⟨_,_,h.rds 1 rfl rfl,?_⟩
   | refine⟨_,_,h.rds 2 rfl rfl,?_⟩
   | refine⟨_,fun _=>h.rd 0 rfl _,?_⟩
   | refine⟨_,fun _=>h.rd 1 rfl _,?_⟩
   | refine⟨_,fun _=>h.rd 2 rfl _,?_⟩
   | refine⟨_,_,fun _=>h.rds 0 rfl rfl,?_⟩
   | refine⟨_,_,fun _=>h.rds 1 rfl rfl,?_⟩
   | refine⟨_,_,fun _=>h.rds 2 rfl rfl,?_⟩)
  exact k _ h.tl.tl.tl
end
end Go.Proofs.YtfmkddccnjidmaaGreatDoor
namespace Go.Nm
theorem sum_append (l r:List Int):(l++r).sum=l.sum+r.sum:=by
 induction l with
 | nil=>simp
 | cons a l ih=>simp only [z7b,List.sum_cons,ih]; omega
theorem qfj {l:List Int}{j:Nat}(h:j < l.length):(l.take (j+1)).sum=(l.take j).sum+l[j]:=by
 rw [z6d h,sum_append]; simp
theorem qr6:∀{l:List Int},(∀x∈l,wf64 x)→-(9223372036854775808*(l.length:Int))≤l.sum∧l.sum≤9223372036854775808*(l.length:Int)
 | [],_=>by simp
 | a::l,h=>by
  have h1:=h a z5i;have h2:=qr6 (l:=l) fun x hx=>h x (z5j _ hx)
  unfold wf64 at h1;simp only [List.sum_cons,z59];omega
theorem wstep {s v:Int}(hs:q8d s)(hv:wf64 v)(ht:q8d (s+v)) :
  i64.wrap (i64.wrap (whi s+whi v)+i64.wrap ((wlo s+wlo v) / B64))=whi (s+v)∧(wlo s+wlo v) % B64=wlo (s+v):=by
 have h1:=q79 s;have h2:=q79 v;have zx:=wz s;have zy:=wz v;refine⟨?_,by unfold wlo B64; omega⟩;have eq:i64.wrap ((wlo s+wlo v) / B64)=(wlo s+wlo v) / B64:=by unfold B64 at *; exact w64 (by omega) (by omega)
 rw [eq];have hw:wf64 (whi (s+v)):=by unfold q8d at ht; unfold wf64 whi B64; omega
 have eh:i64.wrap (i64.wrap (whi s+whi v)+(wlo s+wlo v) / B64)=i64.wrap (whi (s+v)):=by
  rw [i64e,i64e,i64e];unfold whi wlo B64;omega
 rw [eh];unfold wf64 at hw;exact w64 (by omega) (by omega)
def rowH (h:Nat→Int):List Int:=(List.range 65).map h
def sumC (h:Nat→Int):Int:=(rowH h).sum
theorem vecL_map (f:Nat→Int)(n i:Nat):vecL .i64 f n i=((List.range n).map fun j=>f (i+j)).map I64:=by
 induction n generalizing i with
 | zero=>rfl
 | succ n ih=>
  rw [vecL,ih,List.range_succ_eq_map];simp only [z5y,z68,z71];congr 1;apply z73;intro j _;show I64 (f (i+1+j))=I64 (f (i+(j+1)));rw [show i+1+j=i+(j+1) by omega]
theorem vecL_row (f:Nat→Int):vecL .i64 f 65 0=(rowH f).map I64:=by
 rw [vecL_map]; simp [rowH]
theorem rowH_len (f:Nat→Int):(rowH f).length=65:=by simp [rowH]
theorem rowH_mem {f:Nat→Int}{x:Int}(h:x∈rowH f):∃i,i < 65∧x=f i:=by
 obtain⟨i,hi,rfl⟩:=z5b.1 h;exact⟨i,z6q.1 hi,rfl⟩
structure Cl where
 n:Int
 sum:Int
 mn:Int
 mx:Int
 cer:Int
 pos:Int
 h:Nat→Int
def Cl.z:Cl:=⟨0,0,0,0,0,0,Z0⟩
abbrev encC (c:Cl):List Value:=[I64 c.n,I64 (whi c.sum),.int .u64 (wlo c.sum),I64 c.mn,I64 c.mx,I64 c.cer,I64 c.pos]++vecL .i64 c.h 65 0
abbrev aggC (c:Cl):Value:=.agg ⟨encC c⟩
theorem q2q (c:Cl):(encC c).length=72:=by simp [encC,q91]
structure WC (c:Cl):Prop where
 n:wf64 c.n
 sum:q8d c.sum
 mn:wf64 c.mn
 mx:wf64 c.mx
 cer:wf64 c.cer
 pos:wf64 c.pos
 h:wfH c.h
theorem WC.z:WC Cl.z:=⟨by decide,by decide,by decide,by decide,by decide,by decide,z2g⟩
def inB (c:Cl):Bool:=(List.range 65).all fun i=>decide (c.h i=0) || decide (q0c c.mn≤i∧(i:Int)≤q0c c.mx)
def q43 (c:Cl):Bool:=
 !(decide (c.n < 0) || decide (c.cer < 0) || decide (c.pos < 0) || decide (c.mx < c.mn)) && qfi c.h && decide (sumC c.h=c.n) &&
 (if c.n=0 then decide (c.sum=0) && decide (c.mn=0) && decide (c.mx=0)
  else !(decide (c.h (q0c c.mn).toNat=0) || decide (c.h (q0c c.mx).toNat=0)) && inB c)
def q98 (c:Cl)(certain:Bool):Cl × Int:=
 if q43 c=false then (Cl.z,10) else
 if certain then (if c.cer=9223372036854775807 then (Cl.z,12) else ({ c with cer:=c.cer+1 },0))
 else (if c.pos=9223372036854775807 then (Cl.z,12) else ({ c with pos:=c.pos+1 },0))
def addC (c:Cl)(v:Int):Cl × Int:=
 if q43 c=false then (Cl.z,10) else
 if (addS c.n 1).2≠0 then (Cl.z,12) else
 if (wadd c.sum v).2≠0 then (Cl.z,12) else
 if (addH c.h v).2≠0 then (Cl.z,12) else
 let mn:=if c.n=0 then v else c.mn
 let mx:=if c.n=0 then v else c.mx
 ({ c with n:=(addS c.n 1).1,sum:=(wadd c.sum v).1,h:=(addH c.h v).1,mn:=if v < mn then v else mn,mx:=if v > mx then v else mx },0)
theorem qwd {c:Cl}(h:WC c)(b:Bool):WC (q98 c b).1:=by
 unfold q98;have h5:=h.cer;have h6:=h.pos;unfold wf64 at h5 h6
 split
 ·exact WC.z
 ·split
  ·split
   ·exact WC.z
   ·exact⟨h.n,h.sum,h.mn,h.mx,by unfold wf64; dsimp only; omega,h.pos,h.h⟩
  ·split
   ·exact WC.z
   ·exact⟨h.n,h.sum,h.mn,h.mx,h.cer,by unfold wf64; dsimp only; omega,h.h⟩
theorem addS_wf (a b:Int):wf64 (addS a b).1:=by
 unfold addS
 split
 ·assumption
 ·decide
theorem wadd_wf (a b:Int):q8d (wadd a b).1:=by
 unfold wadd
 split
 ·assumption
 ·decide
theorem addH_wf {h:Nat→Int}(hh:wfH h){v:Int}(hv:wf64 v):wfH (addH h v).1:=by
 unfold addH
 split
 ·exact z2g
 ·split
  ·exact z2g
  ·intro i hi;dsimp only [updN]
   split
   ·rename_i h1 h2 h3;subst h3;have:=hh _ hi;unfold wf64 at *;omega
   ·exact hh i hi
theorem addC_wf {c:Cl}(h:WC c){v:Int}(hv:wf64 v):WC (addC c v).1:=by
 unfold addC
 split
 ·exact WC.z
 ·split
  ·exact WC.z
  ·split
   ·exact WC.z
   ·split
    ·exact WC.z
    ·refine⟨addS_wf _ _,wadd_wf _ _,?_,?_,h.cer,h.pos,addH_wf h.h hv⟩
     ·dsimp only;have:=h.mn
      split <;> split <;> assumption
     ·dsimp only;have:=h.mx
      split <;> split <;> assumption
end Go.Nm
namespace Go.Proofs.YtfmkddccnjidmaaGreatDoor
open Go.Nm
section
variable {F L:List Assn} {H:Heap} {K:Value→Heap→Prop}
theorem z2h {a:Option Addr}{n c:Nat}{vs:List Int}(hn:vs.length=n)(h:SatL H F)(ha:∀H,SatL H F→rdS H a (vs.map I64))(hv:∀x∈vs,wf64 x)(hl:n≤1000000)
  (k:∀H',SatL H' F→K (aggW vs.sum) H'):CF 151 #[.slice a n c] H K:=by
 subst hn;refine qab.call ?_;unfold qab.code;refine h.al fun b _ h=>?_
 refine h.al fun b1 _ h=>?_
 refine⟨fun i H'=>∃j:Nat,i=j∧j≤vs.length∧SatL H' (cellsA b1 [I64 (whi (vs.take j).sum),.int .u64 (wlo (vs.take j).sum)] 58::cellsA b [I64 0,.int .u64 0] 58::F),fun i _=>vs.length - i.toNat,⟨0,rfl,z5s _,h⟩,?_⟩
 rintro i H1 ⟨j,rfl,hj,h⟩;unfold qab.l1;have bnd:∀q,q8d (vs.take q).sum:=fun q=>by
  have:=qr6 (l:=vs.take q) fun x hx=>hv x (z7j hx)
  rw [z5n] at this;unfold q8d;omega
 refine⟨fun hc=>?_,fun hc=>?_⟩
 ·have hlt:j < vs.length:=by have:=z4z hc; omega
  have hr:=(ha _ h.tl.tl).at hlt;have hvj:=hv _ (z5e hlt);have hb2:=bnd (j+1);rw [qfj hlt] at hb2;have hst:=wstep (bnd j) hvj hb2;rw [← qfj hlt] at hst;have eu:u64.wrap vs[j]=wlo vs[j]:=by rw [u64e]
  refine⟨⟨by omega,by omega⟩,_,_,hr.1,_,hr.2,_,h.rd 0 rfl _,?_⟩;rw [eu];refine⟨_,_,qr5 (q79 _).1 (q79 _).1,_,h.rd 0 rfl _,by decide,?_⟩;rw [fdiv63 hvj,hst.1,hst.2];refine h.sta 0 rfl rfl fun H2 h=>?_
  rw [show i64.wrap ((j:Int)+1)=((j+1:Nat):Int) by rw [w64 (by omega) (by omega)]; omega];exact⟨⟨j+1,rfl,hlt,h⟩,by simp only [z5a]; omega⟩
 ·have:j=vs.length:=by have:=z54 hc; omega
  subst this;rw [z5o (z5c _)] at h
  repeat (first
   | refine h.al fun _ _ h=>?_
   | refine q02 ?_
   | refine⟨fun _=>trivial,?_⟩
   | refine⟨_,h.rd 0 rfl _,?_⟩
   | refine⟨_,h.rd 1 rfl _,?_⟩
   | refine h.st 0 rfl rfl fun _ h=>?_
   | refine h.st 1 rfl rfl fun _ h=>?_
   | refine⟨_,_,h.rds 0 rfl rfl,?_⟩
   | refine⟨_,_,h.rds 1 rfl rfl,?_⟩
   | refine⟨_,fun _=>h.rd 0 rfl _,?_⟩
   | refine⟨_,fun _=>h.rd 1 rfl _,?_⟩
   | refine⟨_,_,fun _=>h.rds 0 rfl rfl,?_⟩
   | refine⟨_,_,fun _=>h.rds 1 rfl rfl,?_⟩)
  exact k _ h.tl.tl
theorem qyz {f:Nat→Int}(hf:wfH f)(h:SatL H F)(k:∀H',SatL H' F→K (aggW (sumC f)) H'):CF 76 #[.agg ⟨vecL .i64 f 65 0⟩] H K:=by
 refine qd0.call ?_;unfold qd0.code;refine h.al fun b _ h=>?_
 refine h.al fun b1 _ h=>⟨by decide,?_⟩
 have e0:slB (some ⟨b,0,none⟩) 0 65 1=some ⟨b,0,none⟩:=rfl;rw [e0];refine z2h (vs:=rowH f) (rowH_len f) h (fun H h=>?_) (fun x hx=>?_) (by decide) fun H2 h=>⟨_,_,rfl,?_⟩
 ·have:=h.ce_rd 1 rfl;rw [vecL_row] at this;exact this
 ·obtain⟨i,hi,rfl⟩:=rowH_mem hx;exact hf i hi
 ·refine h.sta 0 rfl rfl fun H3 h=>⟨_,_,h.rda 0 rfl,?_⟩
  exact k _ h.tl.tl
theorem qr7 {f:Nat→Int}(h:SatL H F)(k:∀b H',SatL H' (cellsA b (vecL .i64 f 65 0) 60::F)→K (.func (.func 153) #[] #[PA b 0]) H'):CF 79 #[.agg ⟨vecL .i64 f 65 0⟩] H K:=by
 refine qfe.call ?_;unfold qfe.code;exact h.al fun b _ h=>k _ _ h
theorem qmq {l b:Nat}{f:Nat→Int}(A:Nat→Assn)(Ax:Assn)(h:SatL H (A 0::cellsA b (vecL .i64 f 65 0) 60::F))
  (hz:∀j,j < 65→f j=0→A j=A (j+1))
  (hy:∀j,j < 65→f j≠0→∀(G:List Assn) (H1:Heap) (K1:Value→Heap→Prop),SatL H1 (A j::G)→(∀H2,SatL H2 (A (j+1)::G)→K1 (.bool true) H2)→(∀H2,SatL H2 (Ax::G)→K1 (.bool false) H2)→
   q33 Tryz.prog l [I64 (j:Nat),I64 (f j)] H1 K1)
  (k:∀H',SatL H' (A 65::cellsA b (vecL .i64 f 65 0) 60::F)→K (.tuple #[]) H')
  (kx:∀H',SatL H' (Ax::cellsA b (vecL .i64 f 65 0) 60::F)→K (.tuple #[]) H') :
  CF 153 #[.func (.yield l) #[] #[],PA b 0] H K:=by
 refine q1r.call ?_;unfold q1r.code;refine⟨f,h.rda 1 rfl,?_⟩;refine⟨fun i H'=>∃j:Nat,i=j∧j≤65∧SatL H' (A j::cellsA b (vecL .i64 f 65 0) 60::F),fun i _=>65 - i.toNat,⟨0,rfl,by omega,h⟩,?_⟩
 rintro i H1 ⟨j,rfl,hj,h⟩;unfold q1r.l2;refine⟨fun hc=>?_,fun hc=>?_⟩
 ·have hlt:j < 65:=by have:=z4z hc; omega
  refine⟨_,idx60 (by omega) (by omega),?_⟩;rw [z5a];have nxt:∀H2,SatL H2 (A (j+1)::cellsA b (vecL .i64 f 65 0) 60::F)→(∃j':Nat,i64.wrap ((j:Int)+1)=j'∧j'≤65∧SatL H2 (A j'::cellsA b (vecL .i64 f 65 0) 60::F))∧65 - (i64.wrap ((j:Int)+1)).toNat < 65 - ((j:Int)).toNat:=by
   intro H2 h;rw [show i64.wrap ((j:Int)+1)=((j+1:Nat):Int) by rw [w64 (by omega) (by omega)]; omega];exact⟨⟨j+1,rfl,hlt,h⟩,by simp only [z5a]; omega⟩
  refine fun Jn hJ=>⟨fun hn=>?_,fun hn=>?_⟩
  ·have hne:f j≠0:=by simpa using hn
   refine hy j hlt hne _ _ _ h (fun H2 h=>⟨true,rfl,hJ _ _ ?_⟩) (fun H2 h=>⟨false,rfl,hJ _ _ ?_⟩)
   ·unfold q1r.r1;exact⟨fun hf=>by simp at hf,fun _=>nxt _ h⟩
   ·unfold q1r.r1;exact⟨fun _=>kx _ h,fun hf=>by simp at hf⟩
  ·have he:f j=0:=by simpa using hn
   refine hJ _ _ ?_;unfold q1r.r1;rw [hz j hlt he] at h;exact⟨fun hf=>by simp at hf,fun _=>nxt _ h⟩
 ·have:j=65:=by have:=z54 hc; omega
  subst this;exact k _ h
end
end Go.Proofs.YtfmkddccnjidmaaGreatDoor
namespace Go.Nm
theorem qwe (c:Cl){j:Nat}(hj:j < 65):lget (encC c) (7+j)=some (I64 (c.h j)):=by
 refine (q63 (l:=[I64 c.n,I64 (whi c.sum),.int .u64 (wlo c.sum),I64 c.mn,I64 c.mx,I64 c.cer,I64 c.pos]) j).trans ?_;rw [qfh _ _ _ _ _ hj,z5p]
end Go.Nm
namespace Go.Proofs.YtfmkddccnjidmaaGreatDoor
open Go.Nm
section
variable {F L:List Assn} {H:Heap} {K:Value→Heap→Prop}
theorem eqW (x y:Int):q7d Tryz.prog .neq 58 (aggW x) (aggW y) (!decide (x=y))∧q7d Tryz.prog .eql 58 (aggW x) (aggW y) (decide (x=y)):=by
 have h:=qcl (P:=Tryz.prog) (t:=58) (xs:=[I64 (whi x),.int .u64 (wlo x)]) (ys:=[I64 (whi y),.int .u64 (wlo y)]) (r:=(whi x == whi y && (wlo x == wlo y && true))) (by kernel_rfl);have e:(whi x == whi y && (wlo x == wlo y && true))=decide (x=y):=by
  rw [z65];simp only [Bool.and_true,z56,beq_iff_eq,z52];exact weq
 rw [e] at h;exact⟨h.2,h.1⟩
set_option maxHeartbeats 1000000 in
theorem q8e {c:Cl}(wc:WC c)(h:SatL H F)(k:∀H',SatL H' F→K (.bool (q43 c)) H'):CF 25 #[aggC c] H K:=by
 refine q25.call ?_;unfold q25.code;unfold q43 at k;refine h.al fun b _ h=>?_
 refine h.al fun b1 _ h=>?_
 refine⟨_,h.rd 1 rfl _,_,fun _=>h.rd 1 rfl _,_,fun _=>h.rd 1 rfl _,_,fun _=>h.rd 1 rfl _,_,fun _=>h.rd 1 rfl _,fun hc=>?_,fun hc=>?_⟩
 ·rw [hc] at k;refine h.sta 0 rfl rfl fun H2 h=>⟨_,h.rd 0 rfl _,?_⟩
  exact k _ h.tl.tl
 rw [hc] at k;refine⟨c.h,h.rdt (l:=[_,_,_,_,_,_,_]) 1 rfl rfl,?_⟩;refine⟨fun i H'=>∃j:Nat,i=j∧j≤65∧(∀q,q < j→0≤c.h q)∧SatL H' (cellsA b1 [.bool false] 4::cellsA b (encC c) 62::F),fun i _=>65 - i.toNat,⟨0,rfl,by omega,fun _ h=>by omega,h⟩,?_⟩
 rintro i H1 ⟨j,rfl,hj,hp,h⟩;unfold q25.l3;refine⟨fun hc2=>?_,fun hc2=>?_⟩
 ·have hlt:j < 65:=by have:=z4z hc2; omega
  refine⟨_,idx60 (by omega) (by omega),?_⟩;rw [z5a];refine⟨fun hn=>?_,fun hn=>?_⟩
  ·have hn:=z4z hn;have:qfi c.h=false:=by
    rw [z7q];intro hh;have:=q6n.1 hh j hlt;omega
   rw [this] at k;refine h.sta 0 rfl rfl fun H2 h=>⟨_,h.rd 0 rfl _,?_⟩
   exact k _ h.tl.tl
  ·have hn:=z54 hn;rw [show i64.wrap ((j:Int)+1)=((j+1:Nat):Int) by rw [w64 (by omega) (by omega)]; omega];refine⟨⟨j+1,rfl,hlt,fun q hq=>?_,h⟩,by simp only [z5a]; omega⟩
   rcases z5r q j with h1|h1
   ·exact hp q h1
   ·obtain rfl:q=j:=by omega
    omega
 ·have hj65:j=65:=by have:=z54 hc2; omega
  subst hj65;have hv:qfi c.h=true:=q6n.2 hp;rw [hv] at k;refine⟨c.h,h.rdt (l:=[_,_,_,_,_,_,_]) 1 rfl rfl,_,h.rd 1 rfl _,?_⟩;refine qyz wc.h h fun H2 h=>⟨_,_,rfl,h.rd 1 rfl _,?_⟩
  refine qov wc.n h fun H3 h=>⟨_,_,rfl,_,(eqW _ _).1,fun hc3=>?_,fun hc3=>?_⟩
  ·have:decide (sumC c.h=c.n)=false:=by simpa using hc3
   rw [this] at k;refine h.sta 0 rfl rfl fun H2 h=>⟨_,h.rd 0 rfl _,?_⟩
   exact k _ h.tl.tl
  have hs:decide (sumC c.h=c.n)=true:=by simpa using hc3
  rw [hs] at k;simp only [Bool.not_false,Bool.true_and] at k;refine⟨_,h.rd 1 rfl _,fun hc4=>?_,fun hc4=>?_⟩
  ·rw [if_pos (z4z hc4)] at k;have e0:=(eqW c.sum 0).2;refine⟨_,_,h.rdv (l:=[_]) (vs:=[_,_]) 1 rfl rfl,_,e0,_,fun _=>h.rd 1 rfl _,_,fun _=>h.rd 1 rfl _,?_⟩
   refine h.sta 0 rfl rfl fun H2 h=>⟨_,h.rd 0 rfl _,?_⟩
   exact k _ h.tl.tl
  ·rw [if_neg (z54 hc4)] at k;have bl:=q7a wc.mn;have bh:=q7a wc.mx;intro Jn hJ;have fin:∀lb hb H4,SatL H4 (cellsA lb [I64 (q0c c.mn)] 3::cellsA hb [I64 (q0c c.mx)] 3::cellsA b1 [.bool false] 4::cellsA b (encC c) 62::F)→Jn lb 0 hb 0 H4:=by
    intro lb hb H4 h;refine hJ _ _ _ _ _ ?_;unfold q25.r2;have g1:q00 H4 b (7+(q0c c.mn).toNat)=some (I64 (c.h (q0c c.mn).toNat)):=by rw [h.rd 3 rfl]; exact qwe c (by omega)
    have g2:q00 H4 b (7+(q0c c.mx).toNat)=some (I64 (c.h (q0c c.mx).toNat)):=by rw [h.rd 3 rfl]; exact qwe c (by omega)
    refine⟨_,h.rd 0 rfl _,bl,_,g1,_,fun _=>h.rd 1 rfl _,fun _=>bh,_,fun _=>g2,fun hc5=>?_,fun hc5=>?_⟩
    ·rw [hc5] at k;refine h.sta 2 rfl rfl fun H2 h=>⟨_,h.rd 2 rfl _,?_⟩
     exact k _ h.tl.tl.tl.tl
    rw [hc5] at k;simp only [Bool.not_false,Bool.true_and] at k;refine⟨c.h,h.rdt (l:=[_,_,_,_,_,_,_]) 3 rfl rfl,?_⟩;refine qr7 h fun fb H5 h=>⟨_,_,rfl,rfl,fun R hR1 hR2 hy=>?_⟩
    have h:=h.rng R;refine qmq (f:=c.h) (fun j=>star [cellsA lb [I64 (q0c c.mn)] 3,cellsA hb [I64 (q0c c.mx)] 3,cellsA b1 [.bool false] 4,pt (H5.size+1) (.loop R),pur (∀q,q < j→c.h q=0∨q0c c.mn≤q∧(q:Int)≤q0c c.mx)])
     (star [cellsA lb [I64 (q0c c.mn)] 3,cellsA hb [I64 (q0c c.mx)] 3,cellsA b1 [.bool false] 4,pt (H5.size+1) (.loop { R with state:=.done,pending:=some .ret }),pur (inB c=false)])
     (F:=pt H5.size (.deferred (some []))::cellsA b (encC c) 62::F) ?_ ?_ ?_ ?_ ?_
    ·refine SatL.shut [_,_,_,_,_] ?_;have h2:=((h.o [3,4,5,0,2,1,6] 7).pur (p:=∀q:Nat,q < 0→c.h q=0∨q0c c.mn≤q∧(q:Int)≤q0c c.mx) (fun q hq=>absurd hq (Nat.not_lt_zero q)))
     exact h2.o [1,2,3,4,0] 5
    ·intro j hj hz;have:(∀q,q < j→c.h q=0∨q0c c.mn≤q∧(q:Int)≤q0c c.mx)=(∀q,q < j+1→c.h q=0∨q0c c.mn≤q∧(q:Int)≤q0c c.mx):=propext ⟨fun hh q hq=>by
      rcases z5r q j with h1|h1
      ·exact hh q h1
      ·obtain rfl:q=j:=by omega
       exact .inl hz,fun hh q hq=>hh q (by omega)⟩
     simp only [this]
    ·intro j hj hne G H6 K1 h kt kf;have h:=SatL.open (A:=[_,_,_,_,_]) h;have hp2:=(SatL.consP (h.o [4,0,1,2,3] 5)).1;refine hy _ _ _ ?_;unfold q25.y1;refine⟨_,_,rfl,h.getO 3 rfl,h.getO 3 rfl,h.stl 3 rfl fun H7 h=>⟨_,h.rd 0 rfl _,_,fun _=>h.rd 1 rfl _,fun hc6=>?_,fun hc6=>?_⟩⟩
     ·refine h.sta 2 rfl rfl fun H8 h=>⟨h.getO 3 rfl,kf _ ?_⟩
      have h:=h.setO 3 rfl (.loop { R with state:=.done,pending:=some .ret });have hib:inB c=false:=by
       rw [z7q];intro hib;unfold inB at hib;rw [z69] at hib;have:=hib j (z6q.2 hj);simp only [z5h,z52] at this hc6;omega
      refine SatL.shut [_,_,_,_,_] ?_;exact ((h.pur hib).o [1,2,3,4,0] 6)
     ·refine⟨h.getO 3 rfl,kt _ ?_⟩;have h:=h.setO 3 rfl (.loop R);refine SatL.shut [_,_,_,_,_] ?_;have hp3:∀q,q < j+1→c.h q=0∨q0c c.mn≤q∧(q:Int)≤q0c c.mx:=fun q hq=>by
       rcases z5r q j with h1|h1
       ·exact hp2 q h1
       ·obtain rfl:q=j:=by omega
        simp only [z5g,z58] at hc6;exact .inr (by omega)
      exact ((h.pur hp3).o [1,2,3,4,0] 6)
    ·intro H6 h;have h:=SatL.open (A:=[_,_,_,_,_]) h;have hp2:=(SatL.consP (h.o [4,0,1,2,3] 5)).1;have hib:inB c=true:=by
      unfold inB;rw [z69];intro q hq;have:=hp2 q (z6q.1 hq);simp only [z5h,z52];exact this
     rw [hib] at k;refine⟨.ready,none,by decide,by rw [q7p hR1 hR2]; exact h.getO 3 rfl,h.stl 3 rfl fun H9 h=>.inl ⟨rfl,?_⟩⟩
     refine h.sta 2 rfl rfl fun H10 h=>⟨h.getO 6 rfl,?_⟩
     have h:=h.setO 6 rfl (.deferred none);exact⟨_,h.rd 2 rfl _,k _ (h.o [7] 8).tl⟩
    ·intro H6 h;have h:=SatL.open (A:=[_,_,_,_,_]) h;have hib:=(SatL.consP (h.o [4,0,1,2,3] 5)).1;rw [hib] at k;refine⟨.done,some .ret,by decide,h.getO 3 rfl,h.stl 3 rfl fun H9 h=>.inr ⟨rfl,h.getO 6 rfl,?_⟩⟩
     have h:=h.setO 6 rfl (.deferred none);exact⟨_,h.rd 2 rfl _,k _ (h.o [7] 8).tl⟩
   refine⟨_,h.rd 1 rfl _,_,q2a wc.mn,_,h.rd 1 rfl _,_,q2a wc.mx,?_,?_⟩
   ·refine h.al fun lb _ h=>⟨q2a wc.mx,h.rd 2 rfl _,q2a wc.mn,h.rd 2 rfl _,?_⟩
    refine h.al fun hb _ h=>⟨q2a wc.mx,h.rd 3 rfl _,q2a wc.mn,h.rd 3 rfl _,?_⟩
    refine h.sta 1 rfl rfl fun _ h=>h.sta 0 rfl rfl fun _ h=>?_
    exact fin _ _ _ (h.o [1,0] 2)
   ·refine h.al fun lb _ h=>⟨q2a wc.mx,h.rd 2 rfl _,q2a wc.mn,h.rd 2 rfl _,?_⟩
    refine h.al fun hb _ h=>⟨q2a wc.mx,h.rd 3 rfl _,q2a wc.mn,h.rd 3 rfl _,?_⟩
    refine h.sta 0 rfl rfl fun _ h=>h.sta 1 rfl rfl fun _ h=>?_
    exact fin _ _ _ h
end
end Go.Proofs.YtfmkddccnjidmaaGreatDoor
namespace Go.Nm
section
variable {H:Heap} {L:List Assn}
theorem SatL.stv {Q:Heap→Prop}{b e n o:Nat}{f:Nat→Int}{j:Nat}{x:Int}(h:SatL H L)(i:Nat)(hA:nth i L=cellsA b (vecL .i64 f n 0) e)(hj:j < n)(ho:o=0+j)(k:∀H',SatL H' (put i (cellsA b (vecL .i64 (updN f j x) n 0) e) L)→Q H') :
  q57 H b o [I64 x]∧∀H',H'=q7i H b o [I64 x]→Q H':=by
 subst ho;rw [z5p];refine⟨h.can i hA j _ (by rw [q91]; simp; omega),?_⟩;rintro H' rfl;have:=h.set i hA j [I64 x];have e2:q2h (vecL .i64 f n 0) j [I64 x]=vecL .i64 (updN f j x) n 0:=by
  show (vecL .i64 f n 0).set j (I64 x)=_;rw [qou _ _ _ _ _ _ hj,z5p]
 rw [e2] at this;exact k _ this
theorem SatL.stt {Q:Heap→Prop}{b e o:Nat}{l r vs:List Value}(h:SatL H L)(i:Nat)(hA:nth i L=cellsA b (l++r) e)(ho:o=l.length)(hl:vs.length=r.length)(k:∀H',SatL H' (put i (cellsA b (l++vs) e) L)→Q H') :
  q57 H b o vs∧∀H',H'=q7i H b o vs→Q H':=by
 subst ho;refine⟨h.can i hA _ _ (by rw [z51]; omega),?_⟩;rintro H' rfl;have:=h.set i hA l.length vs;have e2:q2h (l++r) l.length vs=l++vs:=by
  have:=q2l vs l r 0;rw [z71] at this;rw [this,qjq _ _ hl]
 rw [e2] at this;exact k _ this
end
end Go.Nm
namespace Go.Proofs.YtfmkddccnjidmaaGreatDoor
open Go.Nm
section
variable {F L:List Assn} {H:Heap} {K:Value→Heap→Prop}
theorem z2i {f:Nat→Int}{v:Int}(hf:wfH f)(hv:wf64 v)(h:SatL H F)(k:∀H',SatL H' F→K (.tuple #[.agg ⟨vecL .i64 (addH f v).1 65 0⟩,I64 (addH f v).2]) H') :
  CF 263 #[.agg ⟨vecL .i64 f 65 0⟩,I64 v] H K:=by
 refine qid.call ?_;unfold qid.code;unfold addH at k;refine h.al fun b _ h=>?_
 refine h.al fun b1 _ h=>⟨f,h.rda 1 rfl,?_⟩
 refine qyy h fun H2 h=>⟨_,rfl,fun hc=>?_,fun hc=>?_⟩
 ·rw [if_pos (by simpa using hc)] at k;refine h.sta 0 rfl rfl fun H3 h=>⟨_,h.rda 0 rfl,k _ h.tl.tl⟩
 rw [if_neg (by simpa using hc)] at k;have hb:=q7a hv;have hlt:(q0c v).toNat < 65:=by omega
 have hget:q00 H2 b (0+(q0c v).toNat)=some (I64 (f (q0c v).toNat)):=by
  rw [h.rd 1 rfl,z5p,qfh _ _ _ _ _ hlt,z5p]
 refine⟨_,q2a hv,hb,_,hget,fun hc2=>?_,fun hc2=>?_⟩
 ·rw [if_pos (z4z hc2)] at k;refine h.sta 0 rfl rfl fun H3 h=>⟨_,h.rda 0 rfl,k _ h.tl.tl⟩
 have hne:=z54 hc2;rw [if_neg hne] at k;have hfv:=hf _ hlt;unfold wf64 at hfv;refine⟨hb,_,hget,hb,?_⟩;rw [w64 (x:=f (q0c v).toNat+1) (by omega) (by omega)];refine h.stv 1 rfl hlt rfl fun H3 h=>⟨_,h.rda 1 rfl,?_⟩
 refine h.sta 0 rfl rfl fun H3 h=>⟨_,h.rda 0 rfl,k _ h.tl.tl⟩
theorem qmr {c:Cl}{certain:Bool}(wc:WC c)(h:SatL H F)(k:∀H',SatL H' F→K (.tuple #[aggC (q98 c certain).1,I64 (q98 c certain).2]) H') :
  CF 222 #[aggC c,.bool certain] H K:=by
 refine q78.call ?_;unfold q78.code;unfold q98 at k;have wn:=qwd wc;refine h.al fun b _ h=>?_
 refine h.al fun b1 _ h=>⟨_,_,_,_,_,_,_,_,h.rda 1 rfl,?_⟩
 refine q8e wc h fun H2 h=>⟨_,rfl,fun hc=>?_,fun hc=>?_⟩
 ·rw [if_pos (by simpa using hc)] at k;refine h.sta 0 rfl rfl fun H3 h=>⟨_,_,_,_,_,_,_,_,h.rda 0 rfl,k _ h.tl.tl⟩
 rw [if_neg (by simpa using hc)] at k;refine fun Jn hJ=>⟨fun hb=>hJ _ _ ?_,fun hb=>hJ _ _ ?_⟩
 ·rw [if_pos hb] at k;unfold q78.r1;refine q02 ⟨_,h.rd 1 rfl _,fun hm=>?_,fun hm=>?_⟩
  ·rw [if_pos (z4z hm)] at k;refine h.sta 0 rfl rfl fun H3 h=>⟨_,_,_,_,_,_,_,_,h.rda 0 rfl,k _ h.tl.tl⟩
  ·have hm:=z54 hm;rw [if_neg hm] at k;have:=wc.cer;unfold wf64 at this;refine q02 ⟨_,h.rd 1 rfl _,q02 ?_⟩;rw [w64 (x:=c.cer+1) (by omega) (by omega)];refine h.st 1 rfl rfl fun H3 h=>?_
   have h:SatL H3 (cellsA b1 (encC Cl.z) 62::cellsA b (encC { c with cer:=c.cer+1 }) 62::F):=h;refine⟨_,_,_,_,_,_,_,_,h.rda 1 rfl,?_⟩;refine h.sta 0 rfl rfl fun H3 h=>⟨_,_,_,_,_,_,_,_,h.rda 0 rfl,k _ h.tl.tl⟩
 ·rw [if_neg (by rw [hb]; decide)] at k;unfold q78.r1;refine q02 ⟨_,h.rd 1 rfl _,fun hm=>?_,fun hm=>?_⟩
  ·rw [if_pos (z4z hm)] at k;refine h.sta 0 rfl rfl fun H3 h=>⟨_,_,_,_,_,_,_,_,h.rda 0 rfl,k _ h.tl.tl⟩
  ·have hm:=z54 hm;rw [if_neg hm] at k;have:=wc.pos;unfold wf64 at this;refine q02 ⟨_,h.rd 1 rfl _,q02 ?_⟩;rw [w64 (x:=c.pos+1) (by omega) (by omega)];refine h.st 1 rfl rfl fun H3 h=>?_
   have h:SatL H3 (cellsA b1 (encC Cl.z) 62::cellsA b (encC { c with pos:=c.pos+1 }) 62::F):=h;refine⟨_,_,_,_,_,_,_,_,h.rda 1 rfl,?_⟩;refine h.sta 0 rfl rfl fun H3 h=>⟨_,_,_,_,_,_,_,_,h.rda 0 rfl,k _ h.tl.tl⟩
set_option maxHeartbeats 1000000 in
theorem z2j {c:Cl}{v:Int}(wc:WC c)(hv:wf64 v)(h:SatL H F)(k:∀H',SatL H' F→K (.tuple #[aggC (addC c v).1,I64 (addC c v).2]) H') :
  CF 225 #[aggC c,I64 v] H K:=by
 refine q70.call ?_;unfold q70.code;unfold addC at k;refine h.al fun b _ h=>?_
 refine h.al fun b1 _ h=>⟨_,_,_,_,_,_,_,_,h.rda 1 rfl,?_⟩
 refine q8e wc h fun H2 h=>⟨_,rfl,fun hc=>?_,fun hc=>?_⟩
 ·rw [if_pos (by simpa using hc)] at k;refine h.sta 0 rfl rfl fun H3 h=>⟨_,_,_,_,_,_,_,_,h.rda 0 rfl,k _ h.tl.tl⟩
 rw [if_neg (by simpa using hc)] at k;refine⟨_,h.rd 1 rfl _,_,_,qwb wc.n (by decide),fun hn=>?_,fun hn=>?_⟩
 ·rw [if_pos (by simpa using hn)] at k;refine h.sta 0 rfl rfl fun H3 h=>⟨_,_,_,_,_,_,_,_,h.rda 0 rfl,k _ h.tl.tl⟩
 rw [if_neg (by simpa using hn)] at k;intro Jn hJ;have w128:q8d v:=by unfold wf64 at hv; unfold q8d; omega
 have fin:∀sb H4,SatL H4 (cellsA sb [I64 (whi (wadd c.sum v).1),.int .u64 (wlo (wadd c.sum v).1)] 58::cellsA b1 (encC Cl.z) 62::cellsA b (encC c) 62::F)→Jn (wadd c.sum v).2 sb 0 H4:=by
  intro sb H4 h;refine hJ _ _ _ _ ?_;unfold q70.r2;refine⟨fun hw=>?_,fun hw=>?_⟩
  ·rw [if_pos (by simpa using hw)] at k;refine h.sta 1 rfl rfl fun H3 h=>⟨_,_,_,_,_,_,_,_,h.rda 1 rfl,k _ h.tl.tl.tl⟩
  rw [if_neg (by simpa using hw)] at k;refine⟨c.h,h.rdt (l:=[_,_,_,_,_,_,_]) 2 rfl rfl,?_⟩;refine z2i wc.h hv h fun H5 h=>⟨_,_,rfl,?_⟩
  refine h.al fun b2 _ h=>?_
  refine h.sta 0 rfl rfl fun H6 h=>⟨fun hh=>?_,fun hh=>?_⟩
  ·rw [if_pos (by simpa using hh)] at k;refine h.sta 2 rfl rfl fun H3 h=>⟨_,_,_,_,_,_,_,_,h.rda 2 rfl,k _ h.tl.tl.tl.tl⟩
  rw [if_neg (by simpa using hh)] at k;refine⟨_,h.rd 3 rfl _,fun Jn1 hJ1=>?_⟩
  dsimp only at k;have fin2:∀(mn mx:Int) H7,mn=(if c.n=0 then v else c.mn)→mx=(if c.n=0 then v else c.mx)→SatL H7 (cellsA b2 (vecL .i64 (addH c.h v).1 65 0) 60::cellsA sb [I64 (whi (wadd c.sum v).1),.int .u64 (wlo (wadd c.sum v).1)] 58::cellsA b1 (encC Cl.z) 62::cellsA b (encC { c with mn:=mn,mx:=mx }) 62::F)→Jn1 H7:=by
   intro mn mx H7 e1 e2 h;refine hJ1 _ ?_;unfold q70.r1;rw [← e1,← e2] at k;refine⟨_,_,h.rda 1 rfl,_,h.rda 0 rfl,?_⟩;refine h.st 3 rfl rfl fun H8 h=>⟨h.rda 0 rfl,h.rda 1 rfl,?_⟩
   refine h.st 3 rfl rfl fun H9 h=>⟨h.rda 0 rfl,?_⟩
   have h:SatL H9 (cellsA b2 (vecL .i64 (addH c.h v).1 65 0) 60::cellsA sb [I64 (whi (wadd c.sum v).1),.int .u64 (wlo (wadd c.sum v).1)] 58::cellsA b1 (encC Cl.z) 62::cellsA b (encC { c with n:=(addS c.n 1).1,sum:=(wadd c.sum v).1,mn:=mn,mx:=mx }) 62::F):=h;refine h.stt (l:=[_,_,_,_,_,_,_]) 3 rfl rfl (by rw [q91,q91]) fun H10 h=>?_
   have h:SatL H10 (cellsA b2 (vecL .i64 (addH c.h v).1 65 0) 60::cellsA sb [I64 (whi (wadd c.sum v).1),.int .u64 (wlo (wadd c.sum v).1)] 58::cellsA b1 (encC Cl.z) 62::cellsA b (encC { c with n:=(addS c.n 1).1,sum:=(wadd c.sum v).1,mn:=mn,mx:=mx,h:=(addH c.h v).1 }) 62::F):=h;refine⟨_,h.rd 3 rfl _,_,h.rd 3 rfl _,?_⟩;refine h.st 3 rfl rfl fun H11 h=>?_
   refine h.st 3 rfl rfl fun H12 h=>?_
   have h:SatL H12 (cellsA b2 (vecL .i64 (addH c.h v).1 65 0) 60::cellsA sb [I64 (whi (wadd c.sum v).1),.int .u64 (wlo (wadd c.sum v).1)] 58::cellsA b1 (encC Cl.z) 62::
    cellsA b (encC { c with n:=(addS c.n 1).1,sum:=(wadd c.sum v).1,mn:=if v < mn then v else mn,mx:=if v > mx then v else mx,h:=(addH c.h v).1 }) 62::F):=h
   refine⟨_,_,_,_,_,_,_,_,h.rda 3 rfl,?_⟩;refine h.sta 2 rfl rfl fun H3 h=>⟨_,_,_,_,_,_,_,_,h.rda 2 rfl,k _ h.tl.tl.tl.tl⟩
  refine⟨fun hz=>?_,fun hz=>?_⟩
  ·have hz:=z4z hz;refine h.st 3 rfl rfl fun H8 h=>?_
   refine h.st 3 rfl rfl fun H9 h=>?_
   exact fin2 v v _ (by rw [if_pos hz]) (by rw [if_pos hz]) h
  ·have hz:=z54 hz;exact fin2 c.mn c.mx _ (by rw [if_neg hz]) (by rw [if_neg hz]) h
 refine⟨_,_,h.rdv (l:=[_]) (vs:=[_,_]) 1 rfl rfl,?_,?_⟩
 ·refine qov hv h fun H3 h=>⟨_,_,rfl,h.rdv (l:=[_]) (vs:=[_,_]) 1 rfl rfl,?_,?_⟩
  ·refine qk8 wc.sum w128 h fun H4 h=>⟨_,_,_,rfl,?_⟩
   refine h.al fun b3 _ h=>?_
   refine h.sta 0 rfl rfl fun H5 h=>fin _ _ h
  ·refine h.al fun b3 _ h=>⟨h.rdv (l:=[_]) (vs:=[_,_]) 2 rfl rfl,?_⟩
   refine qk8 wc.sum w128 h fun H4 h=>⟨_,_,_,rfl,?_⟩
   refine h.sta 0 rfl rfl fun H5 h=>fin _ _ h
 ·refine h.al fun b3 _ h=>⟨h.rdv (l:=[_]) (vs:=[_,_]) 2 rfl rfl,?_⟩
  refine qov hv h fun H3 h=>⟨_,_,rfl,h.rdv (l:=[_]) (vs:=[_,_]) 2 rfl rfl,?_⟩
  refine qk8 wc.sum w128 h fun H4 h=>⟨_,_,_,rfl,?_⟩
  refine h.sta 0 rfl rfl fun H5 h=>fin _ _ h
end
end Go.Proofs.YtfmkddccnjidmaaGreatDoor
