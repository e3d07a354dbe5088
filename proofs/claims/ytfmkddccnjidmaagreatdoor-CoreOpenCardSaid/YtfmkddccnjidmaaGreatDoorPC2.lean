/-
  Lemmas for CoreOpen: part 2 of what it rests on. Conditions: none.
-/
import Derived.Test.YtfmkddccnjidmaaGreatDoorPC1
set_option linter.unusedVariables false
set_option linter.unusedSimpArgs false
set_option maxRecDepth 100000
open Go.IntKind (i64 u64 i8 u8 i32 u32 i16 u16)
namespace Go.Proofs.YtfmkddccnjidmaaGreatDoor
open Go.Nm
open Go.Nm
section
variable {a b c d e f g i j k a0 a1 a2 a3 a4 a5 a6 a7 a8 a9 b0 b1 b2 b3 b4 b5 b6 b7 b8 b9 c0 c1 c2 c3 c4 c5 c6 c7 c8 c9 d0 d1 d2 d3 d4 d5 d6 d7 d8 d9 e0 e1 e2 e3 e4 e5 e6 e7 e8 e9 f0 f1 f2 f3 f4 f5 f6 f7 f8 f9 g0 g1 g2 g3 g4 g5 g6 g7 g8 g9 i0 i1 i2 i3 i4 i5 i6 i7 i9 k0 k1 k2 k3 k4 k5 k6 k7 k8 k9 m0 m1 m2 m3 m4 m5 m6 m7 m8 m9 n0:Int} {l m n o p q r n1 n2 n3 n4 n5 n6 n7 n8 n9 o0 o1 o2 o3 o4 o5 o6 o7 o8 o9 p0 p1 p2 p3 p4 p5 p6 p7 p8 p9 q0 q1 q2 q3 q4 q5 q6 q7 q8 q9 s0 s1 s2 s3 s4 s5 s6 s7 s8 s9 t0 t1 t2 t3 t4 t5 t6 t7 t8 t9 u0:Nat} {s t u v u1 u2 u3 u4 u5 u6 u7 u9 v0 v1 v2 v3 v4 v5 v6 v7 v8 v9 w0 w1 w2 w3 w4 w5 w6 w7 w8 w9 x0 x1:Option Addr} {w x x2 x3 x4 x5 x6 x7 x8 x9 z0 z1 z2 z3 z4 z5 z6:ByteArray} {y z7 z8 z9 aa ab ac ad ae af ag ai aj ak al am:Bool} {z an ao ap aq ar au av aw:Nat→Int} {az ah ba bb bc bd be bf:Value} {bj bk bl bm bn bo bp bq:List Value} {bt bu bv bw bx bz:FuncId} {cb cc cd ce cf cg ci cj ck cl cm cn:Option Nat} {H:Heap} {K KP:Value→Heap→Prop}
theorem z0s (h :
 AL H (qin b c w s p q) 95 fun j b7=>
 AL b7 (L_i2 0 0) 51 fun e b8=>
 AL b8 (L_i2 0 0) 53 fun f k=>
 rd_i k j 0 fun b9=>
 rd_i k n (o+2) fun c0=>
 ID (b9 < c0) (
 ST k e 0 (L_i2 6 0) fun c1=>
 ST c1 f 0 (L_i2 0 0) fun v=>
 q0c v e 0 fun c2=>
 q0c v f 0 fun c3=>
 K (V_v2 (.agg ⟨c2⟩) (.agg ⟨c3⟩)) v) (
 rd_i k j 0 fun c4=>
 ST k n (o+2) [I64 c4] fun a4=>
 rd_i a4 j 0 fun c5=>
 q1y 91 (L_aiai l m a n o c5) a4 fun c6 c7 c8=>
 AL c8 (L_i2 0 0) 53 fun d c9=>
 ST c9 d 0 c6 fun i=>
 rd_p i n o fun d0=>
 Q_b 70 [.pointer d0] i fun r2=>
 IF (r2 || (!decide (c7=0))) (
 ST i e 0 (L_i2 2 0) fun d1=>
 ST d1 f 0 (L_i2 0 0) fun x=>
 q0c x e 0 fun d2=>
 q0c x f 0 fun d3=>
 K (V_v2 (.agg ⟨d2⟩) (.agg ⟨d3⟩)) x) (
 rd_p i l (m+16) fun d4=>
 rd_i i d 0 fun d5=>
 C_i 148 (z5d d4 a d5) i fun r3 g=>
 rd_i g d 0 fun d6=>
 rd_p g l (m+16) fun d7=>
 Q_i 60 [.pointer d7] g fun r4=>
 ID (d6 < r4) (
 q0c g d 0 fun a5=>
 ST g e 0 (L_i2 1 0) fun a6=>
 q03 a6 d 0 a5∧
 ST a6 f 0 a5 fun y=>
 q0c y e 0 fun d8=>
 q0c y f 0 fun d9=>
 K (V_v2 (.agg ⟨d8⟩) (.agg ⟨d9⟩)) y) (
 q26 g j 2 fun e0=>
 C_s 190 [.agg ⟨e0⟩] g fun r5 z=>
 q0x z l (m+12) fun e1=>
 q0c z d 0 fun e2=>
 CF 191 ⟨(L_v2 (.agg ⟨e1⟩) (.agg ⟨e2⟩))⟩ z fun e3 a7=>∃r6 r7 g0,e3=(V_i3 r6 r7 g0)∧
 rd_p a7 l (m+17) fun e4=>
 C_i 192 [.pointer e4,I64 r6,I64 r7,.string r5] a7 fun e5 r=>
 IN (e5=0) (
 q0c r d 0 fun a8=>
 ST r e 0 (L_i2 4 0) fun a9=>
 q03 a9 d 0 a8∧
 ST a9 f 0 a8 fun a0=>
 q0c a0 e 0 fun e6=>
 q0c a0 f 0 fun e7=>
 K (V_v2 (.agg ⟨e6⟩) (.agg ⟨e7⟩)) a0) (
 q0x r l (m+12) fun e8=>
 q0c r d 0 fun e9=>
 qli 193 (L_v2 (.agg ⟨e8⟩) (.agg ⟨e9⟩)) r fun b0 f0 t=>
 IN (f0=0) (
 q0c t d 0 fun b1=>
 ST t e 0 (L_i2 3 0) fun b2=>
 q03 b2 d 0 b1∧
 ST b2 f 0 b1 fun a1=>
 q0c a1 e 0 fun f1=>
 q0c a1 f 0 fun f2=>
 K (V_v2 (.agg ⟨f1⟩) (.agg ⟨f2⟩)) a1) (
 rd_p t l (m+17) fun f3=>
 rd_i t j 1 fun f4=>
 C_i 194 [.pointer f3,(A_is b0 r5),I64 f4] t fun f5 u=>
 IN (f5=0) (
 q0c u d 0 fun b3=>
 ST u e 0 (L_i2 4 0) fun b4=>
 q03 b4 d 0 b3∧
 ST b4 f 0 b3 fun a2=>
 q0c a2 e 0 fun f6=>
 q0c a2 f 0 fun f7=>
 K (V_v2 (.agg ⟨f6⟩) (.agg ⟨f7⟩)) a2) (
 q0c u d 0 fun b5=>
 ST u e 0 (L_i2 0 b0) fun b6=>
 q03 b6 d 0 b5∧
 ST b6 f 0 b5 fun a3=>
 q0c a3 e 0 fun f8=>
 q0c a3 f 0 fun f9=>
 K (V_v2 (.agg ⟨f8⟩) (.agg ⟨f9⟩)) a3))))))):CF 147 ⟨[PA l m,I64 a,PA n o,(qqk b c w s p q)]⟩ H K:=cE h
theorem qoa (h :
 C_l 188 [.slice s l m] H fun d c i j=>
 ∃(e:q1l) (g:q3a),e 0 j∧
 ∀a b,e a b→
 ID (a < c) (
 IA a c d fun k n=>
 rd_l b k (n+a.toNat*4+2+1) fun o p q=>
 C_l 189 [.slice o p q] b fun r t u v=>
 IA a c d fun w x=>
 ST v w (x+a.toNat*4+2+1) [.slice r t u] fun f=>
 e (i64.wrap (a+1)) f∧g (i64.wrap (a+1)) f < g a b) (
 K (.slice d c i) b)):CF 146 ⟨[.slice s l m]⟩ H K:=cE h
theorem z5q (h :
 rd_i H l (m+11) fun a=>
 rd_l H l (m+19) fun c b d=>
 K (I64 (i64.wrap (a+(b:Int)))) H):CF 134 ⟨[PA l m]⟩ H K:=cE h
theorem qrp (h :
 ∃(g:q98) (i:qg7),g 0 0 H∧
 ∀c a b,g c a b→
 ID (a < l) (
 IA a l s fun j k=>
 rd_b b j (k+a.toNat) fun n=>
 ∀f:q1l,(∀d e,(g d (i64.wrap (a+1)) e∧i d (i64.wrap (a+1)) e < i c a b)→f d e)→
 IF n (
 ((0:Int)≤a)∧
 f (i64.wrap (c+(i64.wrap (1*2 ^ (min (Int.toNat a) (i64.bits)))))) b) (
 f c b)) (
 K (I64 c) b)):CF 124 ⟨[.slice s l m]⟩ H K:=cE h
theorem qrq (h :
 AL H [.pointer s] 109 fun a c=>
 ∀d:qui,(∀i j k n,(q15 n j k fun a2=>
 AL n a2 95 fun a3 a4=>
 AL a4 qf5 104 fun p a5=>
 ST a5 p 0 (qqn 5 0 0 0 0 0 0 i 0 0 (some ⟨a3,0,none⟩) 1 1 (⟨#[]⟩:ByteArray)) fun q=>
 q7f q p 0 fun a6=>
 C_b 96 [.agg ⟨a6⟩] q fun a7 r=>
 ∀a0:J_HP,(∀o,(q15 o j k fun a8=>
 AL o a8 95 fun a9 b0=>
 qa5 145 (L_ail l m i (some ⟨a9,0,none⟩) 1 1) b0 fun d2 b1 d3 r1 t=>
 ∀a1:J_HP,(∀z,(K (.tuple #[]) z)→a1 z)→
 IF ((decide (0 < (b1:Int))) || (decide (0 < r1))) (
 KP (.iface 28 (I64 10)) t) (
 a1 t))→a0 o)→
 IF (!a7) (
 KP (.iface 28 (I64 10)) r) (
 a0 r))→d i j k n)→
 q0y c a 0 fun e=>
 q0y c a 0 fun b=>
 (P_i 43 [.agg #[.pointer e]] c (fun r2 f=>
 q03 f a 0 [.pointer b]∧
 (qh7 94 [.agg #[.pointer b]] f (fun b2 b3=>
 AL b3 q50 95 fun u b4=>
 ST b4 u 0 b2 fun b5=>
 d r2 u 0 b5) (fun b6 b7=>
 KP b6 b7))∧
 (AL f q50 95 fun v w=>
 q03 w a 0 [.pointer b]∧
 qh7 94 [.agg #[.pointer b]] w (fun b8 b9=>
 ST b9 v 0 b8 fun c0=>
 d r2 v 0 c0) (fun c1 c2=>
 KP c1 c2))) (fun c3 c4=>
 KP c3 c4))∧
 (AL c q50 95 fun x g=>
 q03 g a 0 [.pointer b]∧
 q03 g a 0 [.pointer e]∧
 P_i 43 [.agg #[.pointer e]] g (fun r3 y=>
 q03 y a 0 [.pointer b]∧
 qh7 94 [.agg #[.pointer b]] y (fun c5 c6=>
 ST c6 x 0 c5 fun c7=>
 d r3 x 0 c7) (fun c8 c9=>
 KP c8 c9)) (fun d0 d1=>
 KP d0 d1))):CP 107 ⟨(L_va (.agg #[.pointer s]) l m)⟩ H K KP:=cP h
theorem z0t (h :
 rd_i H l (m+4) fun b=>
 rd_i H l (m+5) fun c=>
 q6r 53 (L_i2 b c) H fun d r1 a=>
 rd_i a l (m+8) fun e=>
 q6r 56 (L_i2 0 e) a fun r2 r3 f=>
 AL f (L_p2i d r2 (-1)) 149 fun g i=>
 K (PA g 0) i):CF 105 ⟨[PA l m]⟩ H K:=cE h
theorem qob (h :
 K (.bool ((decide (b≤a)) && (decide (a≤c)))) H):CF 97 ⟨(L_i3 a b c)⟩ H K:=cE h
theorem qff (h :
 AL H (qin a b w s l m) 95 fun c e=>
 ∀f:qio,(∀p q r j,(q26 j c 2 fun t=>
 C_l 161 [.agg ⟨t⟩] j fun u v x y=>
 AP #[24,24] 24 (L_l2 p q r u v x) y fun z a0 a1 a2=>
 K (.slice z a0 a1) a2)→f p q r j)→
 rd_i e c 0 fun g=>
 rd_i e c 1 fun d=>
 (AL e [I64 g] 2 fun k i=>
 q02 i c 1=some (I64 d)∧
 (C_l 57 [.slice (some ⟨k,0,none⟩) 1 1] i fun a3 a4 a5 n=>
 q02 n c 1=some (I64 d)∧
 AL n [I64 d] 2 fun a6 a7=>
 C_l 59 [.slice (some ⟨a6,0,none⟩) 1 1] a7 fun a8 a9 b0 b1=>
 AP #[24,24] 24 (L_l2 a3 a4 a5 a8 a9 b0) b1 fun b2 b3 b4 b5=>
 f b2 b3 b4 b5)∧
 (AL i [I64 d] 2 fun b6 b7=>
 C_l 57 [.slice (some ⟨k,0,none⟩) 1 1] b7 fun b8 b9 c0 c1=>
 C_l 59 [.slice (some ⟨b6,0,none⟩) 1 1] c1 fun c2 c3 c4 c5=>
 AP #[24,24] 24 (L_l2 b8 b9 c0 c2 c3 c4) c5 fun c6 c7 c8 c9=>
 f c6 c7 c8 c9))∧
 (AL e [I64 d] 2 fun d0 o=>
 q02 o c 0=some (I64 g)∧
 AL o [I64 g] 2 fun d1 d2=>
 C_l 57 [.slice (some ⟨d1,0,none⟩) 1 1] d2 fun d3 d4 d5 d6=>
 C_l 59 [.slice (some ⟨d0,0,none⟩) 1 1] d6 fun d7 d8 d9 e0=>
 AP #[24,24] 24 (L_l2 d3 d4 d5 d7 d8 d9) e0 fun e1 e2 e3 e4=>
 f e1 e2 e3 e4)):CF 95 ⟨[(qqk a b w s l m)]⟩ H K:=cE h
theorem z0u (h :
 AL H [.pointer s] 109 fun a r=>
 AL r q50 95 fun c b=>
 q0y b a 0 fun t=>
 q0y b a 0 fun d=>
 P_i 43 [.agg #[.pointer t]] b (fun u e=>
 q03 e a 0 [.pointer d]∧
 P_i 41 [.agg #[.pointer d]] e (fun r1 f=>
 rd_p f a 0 fun v=>
 CF 160 ⟨[.pointer v]⟩ f fun w x=>∃k l m n r2,w=(V_vi (A_sl k l m n) r2)∧
 AL x (L_sn (⟨#[]⟩:ByteArray)) 93 fun g y=>
 ST y g 0 (L_sl k l m n) fun z=>
 P_T_ 45 [I64 r2] z (fun i=>
 ∃c0 o p q,q03 i g 0 (L_sl c0 o p q)∧
 ST i c 0 (qin u r1 c0 o p q) fun j=>
 q15 j c 0 fun a0=>
 K (.agg ⟨a0⟩) j) (fun a1 a2=>
 KP a1 a2)) (fun a3 a4=>
 KP a3 a4)) (fun a5 a6=>
 KP a5 a6)):CP 94 ⟨[.agg #[.pointer s]]⟩ H K KP:=cP h
theorem z0v (h :
 rd_i H l m fun a=>
 ID (a=2) (
 AL H (L_a3 l (m+1) l (m+3) l (m+6)) 177 fun b c=>
 K (.slice (some ⟨b,0,none⟩) 3 3) c) (
 ID (a=3) (
 AL H (L_a6 l (m+1) l (m+2) l (m+7) l (m+7+1) l (m+7+2) l (m+7+3)) 177 fun d e=>
 K (.slice (some ⟨d,0,none⟩) 6 6) e) (
 ID (a=4) (
 AL H (L_a4 l (m+1) l (m+2) l (m+4) l (m+6)) 177 fun f g=>
 K (.slice (some ⟨f,0,none⟩) 4 4) g) (
 ID (a=5) (
 AL H (L_a5 l (m+1) l (m+2) l (m+4) l (m+5) l (m+6)) 177 fun i j=>
 K (.slice (some ⟨i,0,none⟩) 5 5) j) (
 ID (a=6) (
 AL H [PA l (m+6)] 177 fun k n=>
 K (.slice (some ⟨k,0,none⟩) 1 1) n) (
 ID (a=7) (
 AL H [PA l (m+4)] 177 fun o p=>
 K (.slice (some ⟨o,0,none⟩) 1 1) p) (
 K (.slice none 0 0) H))))))):CF 93 ⟨[PA l m]⟩ H K:=cE h
def q52.code (c d f g:Nat)(i:Value)(H:Heap)(K:Heap→Prop):Prop:=
 C_i 38 [i] H fun j k=>
 ST k c d [I64 j] fun b=>
 rd_i b c d fun l=>
 ∀a:J_HP,(∀e,(K e)→a e)→
 IN (l=0) (
 ST b f g qf6 fun m=>
 a m) (
 a b)
theorem q52.defq {a b c d e H K:_}{u u':FrameMode}(hu:(u=.returning∧e=.nilIface∧u'=.returning)∨(u=panM e false∧u'=panM e true))(hK:q52.code a b c d e H K):DefQ Tryz.prog 92 (L_a2 a b c d) u H fun u'' H'=>u''=u'∧K H':=
 qlh (X:=X) (an:=(.r (.r (.condJ [] .reg .no)))) X_P qxq qh5 Tryz.func92 hu (by kernel_rfl) hK
theorem qrr (h :
 AL H (L_i2 0 0) 53 fun c t=>
 rd_p t n o fun a6=>
 q1y 158 (L_pi a6 b) t fun a7 u a8=>
 AL a8 (L_i2 0 0) 53 fun k a9=>
 ST a9 k 0 a7 fun p=>
 IN (u=0) (
 ST p c 0 (L_i2 0 0) fun v=>
 q0c v c 0 fun b0=>
 K (V_vi (.agg ⟨b0⟩) u) v) (
 rd_p p l (m+16) fun b1=>
 qf7 81 (L_pi b1 a) p fun b2 r4 b3=>
 AL b3 q7z 80 fun q b4=>
 ST b4 q 0 b2 fun d=>
 ∀j:qui,(∀a3 a4 a5 f,(IN (a3=0) (
 ST f c 0 (L_i2 0 0) fun w=>
 q0c w c 0 fun b5=>
 K (V_vi (.agg ⟨b5⟩) 13) w) (
 q0c f a4 a5 fun b6=>
 ST f c 0 b6 fun x=>
 q0c x c 0 fun b7=>
 K (V_vi (.agg ⟨b7⟩) 0) x))→j a3 a4 a5 f)→
 ∃g i,q03 d k 0 (L_i2 g i)∧
 rd_i d q 0 fun r=>
 rd_i d l (m+9) fun s=>
 (AL d (L_i4 g i r s) 53 fun y z=>
 (q1y 159 [.slice (some ⟨y,0,none⟩) 2 2] z fun b8 r5 b9=>
 AL b9 (L_i2 0 0) 53 fun a0 c0=>
 ST c0 a0 0 b8 fun c1=>
 j r5 a0 0 c1)∧
 (AL z (L_i2 0 0) 53 fun a1 c2=>
 q1y 159 [.slice (some ⟨y,0,none⟩) 2 2] c2 fun c3 r6 c4=>
 ST c4 a1 0 c3 fun c5=>
 j r6 a1 0 c5))∧
 (AL d (L_i2 0 0) 53 fun a2 e=>
 q02 e l (m+9)=some (I64 s)∧
 q02 e q 0=some (I64 r)∧
 q03 e k 0 (L_i2 g i)∧
 AL e (L_i4 g i r s) 53 fun c6 c7=>
 q1y 159 [.slice (some ⟨c6,0,none⟩) 2 2] c7 fun c8 r7 c9=>
 ST c9 a2 0 c8 fun d0=>
 j r7 a2 0 d0))):CF 91 ⟨(L_aiai l m a n o b)⟩ H K:=cE h
theorem z5r (h :
 ST H l (m+9) [I64 a] fun o=>
 rd_p o l (m+16) fun b1=>
 C_i 149 (L_pi b1 a) o fun c8 c=>
 rd_p c l (m+17) fun p=>
 q0x c l (m+12) fun b2=>
 rd_p c l (m+16) fun b3=>
 Q_i 60 [.pointer b3] c fun r1=>
 C_i 22 (L_vi (.agg ⟨b2⟩) r1) c fun r2 q=>
 q02 q l (m+17)=some (.pointer p)∧
 C_l 150 (L_pi p r2) q fun b4 r c9 b5=>
 ∃(n:q19) (b0:q1a),n none 0 0 0 b5∧
 ∀e f g b d,n e f g b d→
 ID (b < r) (
 IA b r b4 fun b6 b7=>
 q3l d b6 (b7+b.toNat*74) fun b8=>
 AL d q6q 64 fun i b9=>
 ST b9 i 0 b8 fun j=>
 Q_i 134 [PA l m] j fun r3=>
 ∃a0 a1 a2 a3 a4 a5 a6 a7 a8 a9,q03 j i 0 (q5j a0 a1 a2 a3 a4 a5 a6 a7 a8 a9)∧
 AL j (q2w 4 0 0 0 0 r3 0 0 0 0 0 0 0 a0 a1 a2 a3 a4 a5 a6 a7 a8 a9) 66 fun c0 c1=>
 AP #[39,39] 39 (L_l2 e f g (some ⟨c0,0,none⟩) 1 1) c1 fun s t u k=>
 rd_l k l (m+19) fun v w x=>
 q3l k i 0 fun c2=>
 AL k c2 64 fun c3 y=>
 q02 y l (m+19)=some (.slice v w x)∧
 AP #[86,86] 86 (L_l2 v w x (some ⟨c3,0,none⟩) 1 1) y fun c4 c5 c6 c7=>
 ST c7 l (m+19) [.slice c4 c5 c6] fun z=>
 n s t u (i64.wrap (b+1)) z∧b0 s t u (i64.wrap (b+1)) z < b0 e f g b d) (
 K (.slice e f g) d)):CF 73 ⟨(L_ai l m a)⟩ H K:=cE h
theorem z5s (h :
 AL H (qby a b c d e f g i j k a0 s n o) 46 fun r z=>
 rd_i z r 6 fun a2=>
 ST z l (m+9) [I64 a2] fun p=>
 rd_m p l (m+18) fun a3=>
 rd_i p r 1 fun a4=>
 LK_p 113 (.map a3) (I64 a4) p fun q=>
 rd_i p r 4 fun t=>
 NN q (
 rd_p p (adrB q) ((adrO q)+1) fun a5=>
 Q_i 82 [.pointer a5] p fun u=>
 gd_i ((!decide (t=u))=false) p r 5 fun v=>
 (((!decide (t=u))=false)→isA q)∧
 gd_i ((!decide (t=u))=false) p (adrB q) ((adrO q)+2) fun w=>
 ((((!decide (t=u)) || (decide (v < w)))=false)→isA q)∧
 gd_p (((!decide (t=u)) || (decide (v < w)))=false) p (adrB q) (adrO q) fun a6=>
 gQ_b (((!decide (t=u)) || (decide (v < w)))=false) 70 [.pointer a6] p fun a7=>
 IF (((!decide (t=u)) || (decide (v < w))) || a7) (
 K (.tuple #[]) p) (
 rd_i p r 1 fun a8=>
 rd_i p r 5 fun a9=>
 q1y 91 (L_aipi l m a8 q a9) p fun b0 b1 b2=>
 AL b2 (L_i2 0 0) 53 fun a1 b3=>
 ST b3 a1 0 b0 fun y=>
 IN (b1=0) (
 K (.tuple #[]) y) (
 rd_i y r 5 fun b4=>
 NN q (
 ST y (adrB q) ((adrO q)+2) [I64 b4] fun x=>
 rd_p x l (m+16) fun b5=>
 rd_i x r 1 fun b6=>
 rd_i x a1 0 fun b7=>
 C_i 148 (z5d b5 b6 b7) x fun b9 b8=>
 K (.tuple #[]) b8))))):CF 72 ⟨(L_av l m (qdj a b c d e f g i j k a0 s n o))⟩ H K:=cE h
theorem z0w (h :
 AL H (qby a b c d e f g i j k a0 s n o) 46 fun q a4=>
 rd_i a4 q 6 fun c8=>
 ST a4 l (m+9) [I64 c8] fun r=>
 rd_m r l (m+18) fun c9=>
 rd_i r q 1 fun d0=>
 LK_p 113 (.map c9) (I64 d0) r fun p=>
 NN p (
 rd_p r (adrB p) ((adrO p)+1) fun d1=>
 Q_i 82 [.pointer d1] r fun d2=>
 NN p (
 rd_p r (adrB p) ((adrO p)+1) fun a5=>
 rd_i r q 4 fun a6=>
 rd_l r q 11 fun d3 d4 d5=>
 C_l 146 [.slice d3 d4 d5] r fun d6 d7 d8 z=>
 q02 z q 4=some (I64 a6)∧
 q02 z (adrB p) ((adrO p)+1)=some (.pointer a5)∧
 qa5 145 [.pointer a5,I64 a6,.slice d6 d7 d8] z fun d9 a7 g7 g8 e0=>
 ∃(a3:q19) (c7:q1a),a3 none 0 0 0 e0∧
 ∀w x y u t,a3 w x y u t→
 ID (u < a7) (
 IA u a7 d9 fun e1 e2=>
 q15 t e1 (e2+u.toNat*4) fun e3=>
 AL t q50 95 fun a8 e4=>
 ST e4 a8 0 e3 fun a1=>
 rd_i a1 q 1 fun e5=>
 q15 a1 a8 0 fun e6=>
 CF 147 ⟨[PA l m,I64 e5,.pointer p,.agg ⟨e6⟩]⟩ a1 fun e7 e8=>∃b6 b7 b8 b9,e7=(V_v2 (A_i2 b6 b7) (A_i2 b8 b9))∧
 AL e8 (L_i2 0 0) 51 fun a9 e9=>
 AL e9 (L_i2 0 0) 53 fun b0 f0=>
 ST f0 a9 0 (L_i2 b6 b7) fun f1=>
 ST f1 b0 0 (L_i2 b8 b9) fun a2=>
 rd_i a2 q 1 fun f2=>
 rd_i a2 q 2 fun f3=>
 AL a2 (L_i3 0 0 0) 49 fun b1 f4=>
 ST f4 b1 0 (L_i3 f2 f3 (i64.wrap (d2+u))) fun v=>
 ∃c0 c1 c2,q03 v b1 0 (L_i3 c0 c1 c2)∧
 ∃c3 c4,q03 v a9 0 (L_i2 c3 c4)∧
 ∃c5 c6,q03 v b0 0 (L_i2 c5 c6)∧
 AL v (q2w 3 0 0 0 0 0 c0 c1 c2 c3 c4 c5 c6 0 (⟨#[]⟩:ByteArray) 0 0 0 0 0 0 0 Z0) 66 fun f5 f6=>
 AP #[39,39] 39 (L_l2 w x y (some ⟨f5,0,none⟩) 1 1) f6 fun b2 b3 b4 b5=>
 a3 b2 b3 b4 (i64.wrap (u+1)) b5∧c7 b2 b3 b4 (i64.wrap (u+1)) b5 < c7 w x y u t) (
 rd_i t q 1 fun f7=>
 rd_i t q 2 fun f8=>
 NN p (
 rd_p t (adrB p) ((adrO p)+1) fun f9=>
 Q_i 82 [.pointer f9] t fun g0=>
 AL t (q2w 2 f7 f8 0 g0 0 0 0 0 0 0 0 0 0 (⟨#[]⟩:ByteArray) 0 0 0 0 0 0 0 Z0) 66 fun g1 g2=>
 AP #[39,39] 39 (L_l2 w x y (some ⟨g1,0,none⟩) 1 1) g2 fun g3 g4 g5 g6=>
 K (.slice g3 g4 g5) g6))))):CF 71 ⟨(L_av l m (qdj a b c d e f g i j k a0 s n o))⟩ H K:=cE h
def qoc.r2 (a b c:Nat)(j:(Option Addr)→Nat→Nat→Heap→Prop)(k:Option Addr)(l m:Nat)(e:Heap):Prop:=
 rd_m e a (b+18) fun g=>
 rd_i e c 1 fun i=>
 C_p 105 [PA a b] e fun n f=>
 q02 f c 1=some (I64 i)∧
 q02 f a (b+18)=some (.map g)∧
 MU 113 (.map g) (I64 i) (.pointer n) f fun d=>
 rd_p d a (b+16) fun o=>
 rd_i d c 1 fun p=>
 rd_i d c 6 fun q=>
 C_i 138 (z5d o p q) d fun s r=>
 j k l m r
theorem z0x (h :
 AL H (qby a b c d e f g i j k a0 s n o) 46 fun p x=>
 ∀b4:qxr,(∀c8 c9 t,(∀b5:J_n2biHP,(∀b1 b2 d0 b3 z,(IN (b3=0) (
 K (V_ni b3) z) (
 rd_i z p 6 fun d9=>
 ST z l (m+9) [I64 d9] fun r=>
 ∀b6:qio,(∀d1 d2 d3 w,(rd_i w p 1 fun e0=>
 rd_i w b1 (b2+1) fun e1=>
 rd_i w b1 b2 fun e2=>
 AL w (q2w 1 e0 e2 e1 0 0 0 0 0 0 0 0 0 0 (⟨#[]⟩:ByteArray) 0 0 0 0 0 0 0 Z0) 66 fun e3 e4=>
 AP #[39,39] 39 (L_l2 d1 d2 d3 (some ⟨e3,0,none⟩) 1 1) e4 fun e5 e6 e7 e8=>
 K (V_li e5 e6 e7 0) e8)→b6 d1 d2 d3 w)→
 IF d0 (
 rd_m r l (m+18) fun e9=>
 rd_i r p 1 fun f0=>
 LK_p 113 (.map e9) (I64 f0) r fun y=>
 ∀b7:qio,(∀d4 d5 d6 d7,qoc.r2 l m p b6 d4 d5 d6 d7→b7 d4 d5 d6 d7)→
 IF (!y.isNone) (
 NN y (
 rd_p r (adrB y) ((adrO y)+1) fun f1=>
 C_l 83 [.pointer f1] r fun f2 b9 k3 f3=>
 ∃(b8:q19) (d8:q1a),b8 none 0 0 0 f3∧
 ∀a1 a2 a3 u q,b8 a1 a2 a3 u q→
 ID (u < b9) (
 IA u b9 f2 fun f4 f5=>
 rd_i q f4 (f5+u.toNat) fun f6=>
 rd_i q p 1 fun f7=>
 rd_i q c8 c9 fun f8=>
 AL q (q2w 3 0 0 0 0 0 f7 f8 f6 5 0 0 0 0 (⟨#[]⟩:ByteArray) 0 0 0 0 0 0 0 Z0) 66 fun f9 g0=>
 AP #[39,39] 39 (L_l2 a1 a2 a3 (some ⟨f9,0,none⟩) 1 1) g0 fun c0 c1 c2 c3=>
 b8 c0 c1 c2 (i64.wrap (u+1)) c3∧d8 c0 c1 c2 (i64.wrap (u+1)) c3 < d8 a1 a2 a3 u q) (
 rd_p q l (m+16) fun g1=>
 rd_i q p 1 fun g2=>
 C_i 137 (L_pi g1 g2) q fun k4 g3=>
 b7 a1 a2 a3 g3))) (
 b7 none 0 0 r)) (
 b6 none 0 0 r)))→b5 b1 b2 d0 b3 z)→
 rd_p t l (m+15) fun a4=>
 rd_i t p 1 fun a5=>
 rd_i t p 3 fun a6=>
 rd_i t p 6 fun a7=>
 (qlj 136 (L_pi3 a4 a5 a6 a7) t fun g4 g5 g6 g7=>
 AL g7 (L_i3 0 0 0) 78 fun c4 g8=>
 ST g8 c4 0 g4 fun g9=>
 b5 c4 0 g5 g6 g9)∧
 (AL t (L_i3 0 0 0) 78 fun c5 v=>
 q02 v p 6=some (I64 a7)∧
 q02 v p 3=some (I64 a6)∧
 q02 v p 1=some (I64 a5)∧
 q02 v l (m+15)=some (.pointer a4)∧
 qlj 136 (L_pi3 a4 a5 a6 a7) v fun i0 i1 i2 i3=>
 ST i3 c5 0 i0 fun i4=>
 b5 c5 0 i1 i2 i4))→b4 c8 c9 t)→
 rd_p x l (m+15) fun a8=>
 rd_i x p 1 fun a9=>
 (qiq 80 (L_pi a8 a9) x fun i5 k5 i6=>
 AL i6 (L_i3 0 0 0) 78 fun c6 i7=>
 ST i7 c6 0 i5 fun i9=>
 b4 c6 0 i9)∧
 (AL x (L_i3 0 0 0) 78 fun c7 b0=>
 q02 b0 p 1=some (I64 a9)∧
 q02 b0 l (m+15)=some (.pointer a8)∧
 qiq 80 (L_pi a8 a9) b0 fun k0 k6 k1=>
 ST k1 c7 0 k0 fun k2=>
 b4 c7 0 k2)):CF 67 ⟨(L_av l m (qdj a b c d e f g i j k a0 s n o))⟩ H K:=cE h
theorem qrs (h :
 AL H (qby a b c d e f g i j k a0 s n o) 46 fun r p=>
 rd_i p r 6 fun a6=>
 rd_i p r 0 fun y=>
 ID (y=1) (
 rd_i p l (m+10) fun a7=>
 ID (1099511627776≤a7) (
 K (I64 17) p) (
 K (I64 0) p)) (
 ID (y=7) (
 rd_i p r 4 fun a8=>
 Q_i 134 [PA l m] p fun a9=>
 ID (a9 < a8) (
 K (I64 11) p) (
 K (I64 0) p)) (
 ∀z:q1l,(∀a3 t,(∀a1:qdi,(∀a4 q,(IF a4 (
 K (I64 22) q) (
 rd_i q l (m+9) fun b0=>
 ID (a3 < b0) (
 K (I64 11) q) (
 rd_i q r 0 fun b1=>
 ∀a2:J_HP,(∀a5,(K (I64 0) a5)→a2 a5)→
 ID (b1=4) (
 rd_m q l (m+18) fun b2=>
 rd_i q r 1 fun b3=>
 LK_p 113 (.map b2) (I64 b3) q fun u=>
 NN u (
 rd_p q (adrB u) (adrO u) fun b4=>
 C_l 84 [.pointer b4] q fun c3 w c4 x=>
 (((decide ((w:Int)=0))=true)→isA u)∧
 gd_p ((decide ((w:Int)=0))=true) x (adrB u) (adrO u) fun b5=>
 gQ_b ((decide ((w:Int)=0))=true) 70 [.pointer b5] x fun b6=>
 IF ((decide ((w:Int)=0)) && (!b6)) (
 K (I64 19) x) (
 a2 x))) (
 a2 q))))→a1 a4 q)→
 rd_i t r 2 fun v=>
 (((decide (0 < v))=true)→True)∧
 gd_p ((decide (0 < v))=true) t l (m+15) fun b7=>
 gd_i ((decide (0 < v))=true) t r 1 fun b8=>
 gd_i ((decide (0 < v))=true) t r 2 fun b9=>
 JF ((decide (0 < v))=true) (
 C_b 135 (z5d b7 b8 b9) t fun c0 c1=>
 a1 (!c0) c1) (
 a1 false t))→z a3 t)→
 ID (y=3) (
 rd_i p r 10 fun c2=>
 z c2 p) (
 z a6 p)))):CF 66 ⟨(L_av l m (qdj a b c d e f g i j k a0 s n o))⟩ H K:=cE h
theorem qgu (h :
 AL H (L_is a w) 55 fun j s=>
 AL s (q0v b c d e f g i z) 62 fun m k=>
 rd_i k j 0 fun t=>
 rd_s k j 1 fun l=>
 q06 k m 0 fun n=>
 AL k [I64 t] 2 fun u o=>
 q03 o m 0 n∧
 q02 o j 1=some (.string l)∧
 C_l 59 [.slice (some ⟨u,0,none⟩) 1 1] o fun v x y p=>
 q03 p m 0 n∧
 q02 p j 1=some (.string l)∧
 C_l 133 [.agg ⟨n⟩] p fun a0 a1 a2 q=>
 q02 q j 1=some (.string l)∧
 ∃r:ByteArray,q0d Tryz.prog (convert 24 9 (.slice a0 a1 a2)) q (.string r)∧
 AL q (L_s2 l r) 9 fun a3 a4=>
 C_l 132 [.slice (some ⟨a3,0,none⟩) 2 2] a4 fun a5 a6 a7 a8=>
 AP #[24,24] 24 (L_l2 v x y a5 a6 a7) a8 fun a9 b0 b1 b2=>
 K (.slice a9 b0 b1) b2):CF 65 ⟨(L_v2 (A_is a w) (q1t b c d e f g i z))⟩ H K:=cE h
theorem qj1 (h :
 AL H (L_i3 b c d) 78 fun k s=>
 rd_m s l (m+18) fun c6=>
 LK_p 113 (.map c6) (I64 a) s fun e=>
 rd_p s l (m+16) fun c7=>
 qf7 81 (L_pi c7 a) s fun c8 o6 c9=>
 AL c9 q7z 80 fun n d0=>
 ST d0 n 0 c8 fun g=>
 rd_i g k 0 fun a6=>
 rd_i g k 1 fun a7=>
 rd_i g k 2 fun a8=>
 rd_i g n 0 fun a9=>
 rd_b g n 1 fun d1=>
 rd_b g n 2 fun d2=>
 rd_b g n 3 fun d3=>
 AL g [.bool d1,.bool d2,.bool d3] 4 fun d4 o=>
 q02 o n 0=some (I64 a9)∧
 q02 o k 2=some (I64 a8)∧
 q02 o k 1=some (I64 a7)∧
 q02 o k 0=some (I64 a6)∧
 Q_i 124 [.slice (some ⟨d4,0,none⟩) 3 3] o fun r4=>
 AL o (L_i6 a a6 a7 a8 a9 r4) 2 fun d5 d6=>
 C_l 57 [.slice (some ⟨d5,0,none⟩) 6 6] d6 fun d7 d8 d9 b0=>
 NN e (
 rd_i b0 (adrB e) ((adrO e)+2) fun e0=>
 AL b0 [I64 e0] 2 fun e1 e2=>
 C_l 59 [.slice (some ⟨e1,0,none⟩) 1 1] e2 fun e3 e4 e5 e6=>
 AP #[24,24] 24 (L_l2 d7 d8 d9 e3 e4 e5) e6 fun e7 e8 e9 b1=>
 NN e (
 rd_p b1 (adrB e) (adrO e) fun f0=>
 C_l 84 [.pointer f0] b1 fun f1 a1 o7 t=>
 NN e (
 rd_p t (adrB e) (adrO e) fun f2=>
 Q_b 70 [.pointer f2] t fun r5=>
 NN e (
 rd_p t (adrB e) (adrO e) fun b2=>
 AL t [.bool r5] 4 fun f3 u=>
 q02 u (adrB e) (adrO e)=some (.pointer b2)∧
 Q_i 124 [.slice (some ⟨f3,0,none⟩) 1 1] u fun r6=>
 Q_i 125 [.pointer b2] u fun r7=>
 AL u (L_i3 r6 r7 a1) 2 fun f4 f5=>
 C_l 57 [.slice (some ⟨f4,0,none⟩) 3 3] f5 fun f6 f7 f8 f9=>
 AP #[24,24] 24 (L_l2 e7 e8 e9 f6 f7 f8) f9 fun g0 g1 g2 g3=>
 ∃(a4:q19) (c4:q1a),a4 g0 g1 g2 0 g3∧
 ∀v w x i j,a4 v w x i j→
 ID (i < a1) (
 IA i a1 f1 fun g4 g5=>
 q5y j g4 (g5+i.toNat*4) fun g6=>
 AL j ZL_i4 43 fun p g7=>
 ST g7 p 0 g6 fun q=>
 rd_i q p 0 fun g8=>
 rd_i q p 1 fun g9=>
 rd_i q p 2 fun i0=>
 rd_i q p 3 fun i1=>
 AL q (L_i4 g8 g9 i0 i1) 2 fun i2 i3=>
 C_l 57 [.slice (some ⟨i2,0,none⟩) 4 4] i3 fun i4 i5 i6 i7=>
 AP #[24,24] 24 (L_l2 v w x i4 i5 i6) i7 fun b3 b4 b5 b6=>
 a4 b3 b4 b5 (i64.wrap (i+1)) b6∧c4 b3 b4 b5 (i64.wrap (i+1)) b6 < c4 v w x i j) (
 NN e (
 rd_p j (adrB e) ((adrO e)+1) fun i9=>
 NN e (
 rd_p j (adrB e) ((adrO e)+1) fun b7=>
 C_l 83 [.pointer i9] j fun k0 a2 o8 b8=>
 q02 b8 (adrB e) ((adrO e)+1)=some (.pointer b7)∧
 C_p 90 [.pointer b7] b8 fun k1 k2=>
 C_l 126 [.pointer k1] k2 fun k3 k4 o9 a3=>
 NN e (
 rd_p a3 (adrB e) ((adrO e)+1) fun k5=>
 Q_i 82 [.pointer k5] a3 fun k6=>
 AL a3 (L_i2 k6 a2) 2 fun k7 k8=>
 C_l 57 [.slice (some ⟨k7,0,none⟩) 2 2] k8 fun k9 m0 m1 m2=>
 AP #[24,24] 24 (L_l2 v w x k9 m0 m1) m2 fun m3 m4 m5 m6=>
 ∃(a5:q19) (c5:q1a),a5 m3 m4 m5 0 m6∧
 ∀y z a0 f r,a5 y z a0 f r→
 ID (f < a2) (
 IA f a2 k0 fun m7 m8=>
 rd_i r m7 (m8+f.toNat) fun m9=>
 AL r [I64 m9] 2 fun n0 n1=>
 C_l 57 [.slice (some ⟨n0,0,none⟩) 1 1] n1 fun n2 n3 n4 n5=>
 AP #[24,24] 24 (L_l2 y z a0 n2 n3 n4) n5 fun n6 n7 n8 b9=>
 IA f k4 k3 fun n9 o0=>
 q15 b9 n9 (o0+f.toNat*4) fun o1=>
 C_l 95 [.agg ⟨o1⟩] b9 fun o2 o3 o4 o5=>
 AP #[24,24] 24 (L_l2 n6 n7 n8 o2 o3 o4) o5 fun c0 c1 c2 c3=>
 a5 c0 c1 c2 (i64.wrap (f+1)) c3∧c5 c0 c1 c2 (i64.wrap (f+1)) c3 < c5 y z a0 f r) (
 K (.slice y z a0) r)))))))))):CF 62 ⟨(L_aiv l m a (A_i3 b c d))⟩ H K:=cE h
theorem qrt (h :
 ∃(f:q19) (n:q1a),f none 0 0 0 H∧
 ∀c d e a b,f c d e a b→
 ID (a < l) (
 IA a l s fun o p=>
 rd_i b o (p+a.toNat) fun q=>
 AL b [.int .u64 (u64.wrap q)] 56 fun r t=>
 C_l 117 [.slice (some ⟨r,0,none⟩) 1 1] t fun u v w x=>
 AP #[24,24] 24 (L_l2 c d e u v w) x fun g i j k=>
 f g i j (i64.wrap (a+1)) k∧n g i j (i64.wrap (a+1)) k < n c d e a b) (
 K (.slice c d e) b)):CF 57 ⟨[.slice s l m]⟩ H K:=cE h
theorem qv9 (h :
 AL H [.pointer s] 109 fun b c=>
 rd_p c b 0 fun d=>
 C_u 114 [.pointer d] c fun e a=>
 rd_p a b 0 fun f=>
 Q_i 102 [.pointer f] a fun r1=>
 P_T_ 45 [I64 r1] a (fun g=>
 K (.int .u64 e) g) (fun i j=>
 KP i j)):CP 49 ⟨[.agg #[.pointer s]]⟩ H K KP:=cP h
theorem z5t (h :
 AL H [.pointer s] 109 fun a b3=>
 AL b3 (L_is 0 (⟨#[]⟩:ByteArray)) 55 fun v b4=>
 AL b4 q0a 62 fun w d=>
 ∀n:qxr,(∀l m f,(rd_p f a 0 fun b5=>
 rd_p f a 0 fun b6=>
 Q_i 111 [.pointer b6] f fun b7=>
 C_s 110 (L_pi b5 b7) f fun r1 o=>
 rd_p o a 0 fun b8=>
 Q_i 102 [.pointer b8] o fun r2=>
 P_T_ 45 [I64 r2] o (fun x=>
 rd_s x l (m+1) fun b9=>
 CF 112 ⟨[.string b9]⟩ x fun c0 c1=>∃a4 a5 a6 a7 r3,c0=(V_vb (A_sl a4 a5 a6 a7) r3)∧
 AL c1 (L_sn (⟨#[]⟩:ByteArray)) 93 fun c2 c3=>
 ST c3 c2 0 (L_sl a4 a5 a6 a7) fun g=>
 gd_i ((!r3)=false) g l m fun c4=>
 gQ_b ((!r3)=false) 97 (L_i3 c4 0 4611686018427387903) g fun r4=>
 ∀b2:J_HP,(∀a8,(RunW Tryz.prog (convert 9 24 (.string r1)) a8 fun c5 c6=>
 ∃a9 b0 b1,c5=(.slice a9 b0 b1)∧
 q3k 113 [.slice a9 b0 b1] c6 fun c7 c8 c9=>
 AL c9 q0a 62 fun p d0=>
 ST d0 p 0 c7 fun d1=>
 P_T_ 45 [I64 c8] d1 (fun q=>
 q34 q l m fun d2=>
 q06 q p 0 fun y=>
 ST q v 0 d2 fun z=>
 q03 z p 0 y∧
 ST z w 0 y fun r=>
 q34 r v 0 fun d3=>
 q06 r w 0 fun d4=>
 K (V_v2 (.agg ⟨d3⟩) (.agg ⟨d4⟩)) r) (fun d5 d6=>
 KP d5 d6))→b2 a8)→
 IF ((!r3) || (!r4)) (
 KP (.iface 28 (I64 10)) g) (
 b2 g)) (fun d7 d8=>
 KP d7 d8))→n l m f)→
 q0y d a 0 fun t=>
 rd_p d a 0 fun b=>
 rd_p d a 0 fun c=>
 (P_i 41 [.agg #[.pointer t]] d (fun a0 e=>
 q02 e a 0=some (.pointer c)∧
 q02 e a 0=some (.pointer b)∧
 Q_i 111 [.pointer c] e fun u=>
 (C_s 110 (L_pi b u) e fun d9 e0=>
 AL e0 (L_is 0 (⟨#[]⟩:ByteArray)) 55 fun a1 e1=>
 ST e1 a1 0 (L_is a0 d9) fun e2=>
 n a1 0 e2)∧
 (AL e (L_is 0 (⟨#[]⟩:ByteArray)) 55 fun a2 i=>
 CQ 111 #[.pointer c] i (I64 u)∧
 q02 i a 0=some (.pointer c)∧
 q02 i a 0=some (.pointer b)∧
 C_s 110 (L_pi b u) i fun e3 e4=>
 ST e4 a2 0 (L_is a0 e3) fun e5=>
 n a2 0 e5)) (fun e6 e7=>
 KP e6 e7))∧
 (AL d (L_is 0 (⟨#[]⟩:ByteArray)) 55 fun a3 j=>
 q02 j a 0=some (.pointer c)∧
 q02 j a 0=some (.pointer b)∧
 q03 j a 0 [.pointer t]∧
 P_i 41 [.agg #[.pointer t]] j (fun e8 k=>
 q02 k a 0=some (.pointer c)∧
 q02 k a 0=some (.pointer b)∧
 Q_i 111 [.pointer c] k fun e9=>
 C_s 110 (L_pi b e9) k fun f0 f1=>
 ST f1 a3 0 (L_is e8 f0) fun f2=>
 n a3 0 f2) (fun f3 f4=>
 KP f3 f4))):CP 47 ⟨[.agg #[.pointer s]]⟩ H K KP:=cP h
theorem qva (h :
 ∀c:J_HP,(∀b,(K (.tuple #[]) b)→c b)→
 IN (a=0) (
 KP (.iface 28 (I64 a)) H) (
 c H)):CP 45 ⟨[I64 a]⟩ H K KP:=cP h
def q3y.l1 (i j:Nat)(k:Int)(K KP:Value→Heap→Prop)(l c m n:Nat)(r5 o:Option Addr)(p:Int)(q:Int→Heap→Prop)(d:Int→Heap→Nat)(b:Int)(a:Heap):Prop:=
 ID (b < p) (
 q0y a l 0 fun r=>
 P_T_ 107 [.agg #[.pointer r],.pointer o] a (fun e=>
 q (i64.wrap (b+1)) e∧d (i64.wrap (b+1)) e < d b a) (fun s t=>
 KP s t)) (
 rd_m a i (j+18) fun u=>
 MU 113 (.map u) (I64 k) (.pointer r5) a fun f=>
 q8k f m n fun v=>
 ST f c 0 v fun g=>
 q8k g c 0 fun w=>
 K (.agg ⟨w⟩) g)
def q3y.r3 (j k:Nat)(ah:Int)(K KP:Value→Heap→Prop)(a ai aj ak:Nat)(r5:Option Addr)(l:Heap):Prop:=
 q0y l a 0 fun am=>
 q0y l a 0 fun u=>
 P_u 49 [.agg #[.pointer am]] l (fun an v=>
 q03 v a 0 [.pointer u]∧
 P_i 43 [.agg #[.pointer u]] v (fun ao w=>
 q0y w a 0 fun ap=>
 P_i 42 (L_vi (.agg #[.pointer ap]) 8) w (fun aq ar=>
 ∃(m:q19) (r:q1a),m none 0 0 0 ar∧
 ∀d e f c b,m d e f c b→
 ID (c < aq) (
 q0y b a 0 fun au=>
 q0y b a 0 fun x=>
 q0y b a 0 fun o=>
 q0y b a 0 fun g=>
 P_i 43 [.agg #[.pointer au]] b (fun av i=>
 q03 i a 0 [.pointer g]∧
 q03 i a 0 [.pointer o]∧
 q03 i a 0 [.pointer x]∧
 P_i 43 [.agg #[.pointer x]] i (fun aw p=>
 q03 p a 0 [.pointer g]∧
 q03 p a 0 [.pointer o]∧
 P_i 43 [.agg #[.pointer o]] p (fun ax y=>
 q03 y a 0 [.pointer g]∧
 P_i 43 [.agg #[.pointer g]] y (fun ay az=>
 AL az (L_i4 av aw ax ay) 43 fun a0 a1=>
 AP #[166,166] 166 (L_l2 d e f (some ⟨a0,0,none⟩) 1 1) a1 fun z aa ab ac=>
 m z aa ab (i64.wrap (c+1)) ac∧r z aa ab (i64.wrap (c+1)) ac < r d e f c b) (fun a2 a3=>
 KP a2 a3)) (fun a4 a5=>
 KP a4 a5)) (fun a6 a7=>
 KP a6 a7)) (fun a8 a9=>
 KP a8 a9)) (
 NN r5 (
 rd_p b (adrB r5) (adrO r5) fun ba=>
 C_i 106 [.pointer ba,.bool (decide (an=1)),I64 ao,.slice d e f] b fun bb bc=>
 P_T_ 45 [I64 bb] bc (fun q=>
 q0y q a 0 fun bd=>
 rd_i q j (k+8) fun ad=>
 P_i 43 [.agg #[.pointer bd]] q (fun be ae=>
 q02 ae j (k+8)=some (I64 ad)∧
 q6r 56 (L_i2 be ad) ae fun af bf bg=>
 P_T_ 45 [I64 bf] bg (fun bh=>
 NN r5 (
 ST bh (adrB r5) ((adrO r5)+1) [.pointer af] fun ag=>
 q0y ag a 0 fun bi=>
 P_i 42 (L_vi (.agg #[.pointer bi]) 256) ag (fun bj bk=>
 ∃(n:q1l) (al:q3a),n 0 bk∧
 ∀s t,n s t→q3y.l1 j k ah K KP a ai aj ak r5 af bj n al s t) (fun bl bm=>
 KP bl bm))) (fun bn bo=>
 KP bn bo)) (fun bp bq=>
 KP bp bq)) (fun br bs=>
 KP br bs)))) (fun bt bu=>
 KP bt bu)) (fun bv bw=>
 KP bv bw)) (fun bx bz=>
 KP bx bz)
def q3y.r4 (e f:Nat)(l:Int)(K KP:Value→Heap→Prop)(d m:Nat)(r3:Int)(a b:Nat)(g:Heap):Prop:=
 q0y g d 0 fun n=>
 P_u 49 [.agg #[.pointer n]] g (fun r4 o=>
 ST o a (b+1) [.bool (!decide ((q0i .and .u64 r4 1)=0))] fun p=>
 ST p a (b+2) [.bool (!decide ((q0i .and .u64 r4 2)=0))] fun q=>
 ST q a (b+3) [.bool (!decide ((q0i .and .u64 r4 4)=0))] fun r=>
 C_p 105 [PA e f] r fun r5 k=>
 q0y k d 0 fun s=>
 P_i 41 [.agg #[.pointer s]] k (fun r6 t=>
 NN r5 (
 ST t (adrB r5) ((adrO r5)+2) [I64 r6] fun c=>
 NN r5 (
 rd_i c (adrB r5) ((adrO r5)+2) fun u=>
 Q_b 97 (L_i3 u (-1) 4611686018427387903) c fun r7=>
 ∀j:J_HP,(∀i,q3y.r3 e f l K KP d m a b r5 i→j i)→
 IF (!r7) (
 KP (.iface 28 (I64 10)) c) (
 j c)))) (fun v w=>
 KP v w)) (fun x y=>
 KP x y)
theorem z0y (h :
 AL H [.pointer s] 109 fun b x=>
 AL x q7z 80 fun y c=>
 rd_p c l (m+15) fun d=>
 q0y c b 0 fun z=>
 q0y c b 0 fun p=>
 q0y c b 0 fun g=>
 P_i 43 [.agg #[.pointer z]] c (fun a0 e=>
 q03 e b 0 [.pointer g]∧
 q03 e b 0 [.pointer p]∧
 q02 e l (m+15)=some (.pointer d)∧
 P_i 43 [.agg #[.pointer p]] e (fun r1 i=>
 q03 i b 0 [.pointer g]∧
 q02 i l (m+15)=some (.pointer d)∧
 P_i 43 [.agg #[.pointer g]] i (fun r2 q=>
 q02 q l (m+15)=some (.pointer d)∧
 C_i 104 (L_piv d a (A_i3 a0 r1 r2)) q fun r3 a1=>
 P_T_ 45 [I64 r3] a1 (fun f=>
 ∀o:qxr,(∀u v w,q3y.r4 l m a K KP b y r3 u v w→o u v w)→
 q0y f b 0 fun j=>
 rd_i f l (m+9) fun k=>
 (P_i 40 (L_vi (.agg #[.pointer j]) k) f (fun a2 a3=>
 AL a3 q7z 80 fun r a4=>
 ST a4 r 0 (qug a2 false false false) fun a5=>
 o r 0 a5) (fun a6 a7=>
 KP a6 a7))∧
 (AL f q7z 80 fun t n=>
 q02 n l (m+9)=some (I64 k)∧
 q03 n b 0 [.pointer j]∧
 P_i 40 (L_vi (.agg #[.pointer j]) k) n (fun a8 a9=>
 ST a9 t 0 (qug a8 false false false) fun b0=>
 o t 0 b0) (fun b1 b2=>
 KP b1 b2))) (fun b3 b4=>
 KP b3 b4)) (fun b5 b6=>
 KP b5 b6)) (fun b7 b8=>
 KP b7 b8)) (fun b9 c0=>
 KP b9 c0)):CP 44 ⟨[.agg #[.pointer s],PA l m,I64 a]⟩ H K KP:=cP h
theorem z5u (h :
 AL H [.pointer s] 109 fun b a=>
 q0y a b 0 fun c=>
 P_u 49 [.agg #[.pointer c]] a (fun d e=>
 K (I64 (i64.wrap d)) e) (fun f g=>
 KP f g)):CP 43 ⟨[.agg #[.pointer s]]⟩ H K KP:=cP h
theorem z0z (h :
 AL H [.pointer s] 109 fun c d=>
 rd_p d c 0 fun e=>
 C_i 103 (L_pi e a) d fun f b=>
 rd_p b c 0 fun g=>
 Q_i 102 [.pointer g] b fun r1=>
 P_T_ 45 [I64 r1] b (fun i=>
 K (I64 f) i) (fun j k=>
 KP j k)):CP 42 ⟨(L_vi (.agg #[.pointer s]) a)⟩ H K KP:=cP h
theorem qvb (h :
 AL H [.pointer s] 109 fun b c=>
 rd_p c b 0 fun d=>
 C_i 101 [.pointer d] c fun e a=>
 rd_p a b 0 fun f=>
 Q_i 102 [.pointer f] a fun r1=>
 P_T_ 45 [I64 r1] a (fun g=>
 K (I64 e) g) (fun i j=>
 KP i j)):CP 41 ⟨[.agg #[.pointer s]]⟩ H K KP:=cP h
theorem z5v (h :
 AL H [.pointer s] 109 fun g c=>
 q0y c g 0 fun i=>
 P_i 43 [.agg #[.pointer i]] c (fun d b=>
 Q_b 97 (L_i3 d 0 a) b fun r1=>
 ∀f:J_HP,(∀e,(K (I64 d) e)→f e)→
 IF (!r1) (
 KP (.iface 28 (I64 10)) b) (
 f b)) (fun j k=>
 KP j k)):CP 40 ⟨(L_vi (.agg #[.pointer s]) a)⟩ H K KP:=cP h
theorem qga (h :
 ∃b:Bool,q5w Tryz.prog .eql 20 az .nilIface b∧
 IF b (
 K (I64 0) H) (
 ∃a,∃c:Bool,q4v Tryz.prog (Instr.typeAssert az 20 28 true) (.tuple #[I64 a,.bool c])∧
 IF c (
 K (I64 a) H) (
 panP az (fun (d:Value) (e:Heap)=>False) H))):CF 38 ⟨[az]⟩ H K:=cE h
def q49.code (d e f g:Nat)(i:Value)(H:Heap)(K:Heap→Prop):Prop:=
 C_i 38 [i] H fun j c=>
 ∀a:J_HP,(∀b,(K b)→a b)→
 IN (j=0) (
 ST c d e [.pointer none] fun k=>
 ST k f g [I64 10] fun l=>
 a l) (
 a c)
theorem q49.defq {a b c d e H K:_}{u u':FrameMode}(hu:(u=.returning∧e=.nilIface∧u'=.returning)∨(u=panM e false∧u'=panM e true))(hK:q49.code a b c d e H K):DefQ Tryz.prog 37 (L_a2 a b c d) u H fun u'' H'=>u''=u'∧K H':=
 qlh (X:=X) (an:=(.r (.condJ [] .reg .no))) X_P qxq qh5 Tryz.func37 hu (by kernel_rfl) hK
theorem z11 (h :
 rd_i H l (m+10) fun a=>
 K (I64 a) H):CF 35 ⟨[PA l m]⟩ H K:=cE h
theorem z12 (h :
 AL H (qby a b c d e f g i j k a0 s l m) 46 fun o a1=>
 rd_i a1 o 0 fun b3=>
 gd_i ((decide (b3 < 1))=false) a1 o 0 fun d8=>
 IF ((decide (b3 < 1)) || (decide (7 < d8))) (
 K (.bool false) a1) (
 q0s a1 o 0 fun d9=>
 AL a1 qf6 46 fun u e0=>
 ST e0 u 0 d9 fun e1=>
 C_l 93 [PA u 0] e1 fun e2 b4 i2 e3=>
 ∃(b2:q1l) (d7:q3a),b2 0 e3∧
 ∀w q,b2 w q→
 ID (w < b4) (
 IA w b4 e2 fun e4 e5=>
 rd_p q e4 (e5+w.toNat) fun a4=>
 NN a4 (
 ST q (adrB a4) (adrO a4) [I64 0] fun b5=>
 b2 (i64.wrap (w+1)) b5∧d7 (i64.wrap (w+1)) b5 < d7 w q)) (
 rd_i q u 1 fun e6=>
 rd_i q u 2 fun e7=>
 rd_i q u 3 fun e8=>
 rd_i q u 4 fun e9=>
 rd_i q u 5 fun f0=>
 rd_i q u 6 fun f1=>
 AL q [I64 0,I64 0,I64 0,I64 0,I64 0,I64 0] 180 fun b6 f2=>
 ST f2 b6 0 (L_i6 e6 e7 e8 e9 f0 f1) fun r=>
 ∃c1 c2 c3 c4 c5 c6,q03 r b6 0 (L_i6 c1 c2 c3 c4 c5 c6)∧
 ∃a3:Bool,q5w Tryz.prog .neq 180 (A_i6 c1 c2 c3 c4 c5 c6) ZA_i6 a3∧
 z5e (a3=false) r u 7 fun f3=>
 ∃d6:Bool,((a3=false)→q5w Tryz.prog .neq 43 (.agg ⟨f3⟩) (.agg ⟨[I64 0,I64 0,I64 0,I64 0]⟩) d6)∧
 IF (a3 || d6) (
 K (.bool false) r) (
 rd_i r o 0 fun f4=>
 ∀a6:J_HP,(∀z,(rd_i z o 0 fun x=>
 ∀a7:q98,(∀c7 c8 n,(∀a8:qdi,(∀c9 d0,(K (.bool c9) d0)→a8 c9 d0)→
 rd_i n o 1 fun f5=>
 Q_b 97 (L_i3 f5 0 63) n fun p=>
 gd_i (p=true) n o 2 fun f6=>
 gQ_b (p=true) 97 (L_i3 f6 c7 1099511627776) n fun t=>
 gd_i ((p && t)=true) n o 3 fun f7=>
 gQ_b ((p && t)=true) 97 (L_i3 f7 c8 1099511627776) n fun v=>
 gd_i (((p && t) && v)=true) n o 4 fun f8=>
 gQ_b (((p && t) && v)=true) 97 (L_i3 f8 0 1099511627776) n fun y=>
 gd_i ((((p && t) && v) && y)=true) n o 5 fun f9=>
 gQ_b ((((p && t) && v) && y)=true) 97 (L_i3 f9 0 4611686018427387903) n fun a2=>
 gd_i (((((p && t) && v) && y) && a2)=true) n o 6 fun g0=>
 gQ_b (((((p && t) && v) && y) && a2)=true) 97 (L_i3 g0 0 4611686018427387903) n fun b7=>
 z5e ((((((p && t) && v) && y) && a2) && b7)=true) n o 7 fun g1=>
 JF ((((((p && t) && v) && y) && a2) && b7)=true) (
 C_b 98 [.agg ⟨g1⟩] n fun g2 g3=>
 a8 g2 g3) (
 a8 false n))→a7 c7 c8 n)→
 ID (x=2) (
 a7 0 1 z) (
 ∀a9:qdi,(∀d1 a5,(∀b0:q1l,(∀d2 d3,(a7 d2 0 d3)→b0 d2 d3)→
 IF d1 (
 b0 1 a5) (
 b0 0 a5))→a9 d1 a5)→
 ID (x=3) (
 a9 (decide (x=3)) z) (
 ∀b1:qdi,(∀d4 d5,(a9 d4 d5)→b1 d4 d5)→
 ID (x=4) (
 b1 (decide (x=4)) z) (
 b1 (decide (x=5)) z))))→a6 z)→
 ID (f4=4) (
 rd_i r o 4 fun g4=>
 rd_l r o 11 fun g5 g6 g7=>
 AL r qf5 104 fun b8 g8=>
 ST g8 b8 0 (qqn 5 0 0 0 0 0 0 g4 0 0 g5 g6 g7 (⟨#[]⟩:ByteArray)) fun b9=>
 q7f b9 b8 0 fun g9=>
 C_b 96 [.agg ⟨g9⟩] b9 fun i0 c0=>
 IF (!i0) (
 K (.bool false) c0) (
 a6 c0)) (
 rd_l r o 11 fun i3 i1 i4=>
 ID (0 < (i1:Int)) (
 K (.bool false) r) (
 a6 r)))))):CF 34 ⟨[(qdj a b c d e f g i j k a0 s l m)]⟩ H K:=cE h
theorem z13 (h :
 AL H (qby a b c d e f g i j k a0 s l m) 46 fun q a6=>
 q0s a6 q 0 fun c4=>
 C_b 34 [.agg ⟨c4⟩] a6 fun c5 z=>
 IF (!c5) (
 K (.slice none 0 0) z) (
 rd_i z q 0 fun c6=>
 AL z [I64 c6] 2 fun c7 c8=>
 C_l 57 [.slice (some ⟨c7,0,none⟩) 1 1] c8 fun c9 d0 d1 d2=>
 C_l 93 [PA q 0] d2 fun d3 a7 g6 d4=>
 ∃(a4:q19) (c2:q1a),a4 c9 d0 d1 0 d4∧
 ∀r t u o n,a4 r t u o n→
 ID (o < a7) (
 IA o a7 d3 fun d5 d6=>
 rd_p n d5 (d6+o.toNat) fun a1=>
 NN a1 (
 rd_i n (adrB a1) (adrO a1) fun d7=>
 AL n [I64 d7] 2 fun d8 d9=>
 C_l 57 [.slice (some ⟨d8,0,none⟩) 1 1] d9 fun e0 e1 e2 e3=>
 AP #[24,24] 24 (L_l2 r t u e0 e1 e2) e3 fun a8 a9 b0 b1=>
 a4 a8 a9 b0 (i64.wrap (o+1)) b1∧c2 a8 a9 b0 (i64.wrap (o+1)) b1 < c2 r t u o n)) (
 rd_i n q 0 fun e4=>
 ∀a3:qio,(∀b9 c0 c1 a2,(rd_l a2 q 11 fun e5 b2 g7=>
 ∃(a5:q19) (c3:q1a),a5 b9 c0 c1 0 a2∧
 ∀w x y p v,a5 w x y p v→
 ID (p < b2) (
 IA p b2 e5 fun e6 e7=>
 q15 v e6 (e7+p.toNat*4) fun e8=>
 AL v q50 95 fun b3 e9=>
 ST e9 b3 0 e8 fun b4=>
 q15 b4 b3 0 fun f0=>
 C_l 95 [.agg ⟨f0⟩] b4 fun f1 f2 f3 f4=>
 AP #[24,24] 24 (L_l2 w x y f1 f2 f3) f4 fun b5 b6 b7 b8=>
 a5 b5 b6 b7 (i64.wrap (p+1)) b8∧c3 b5 b6 b7 (i64.wrap (p+1)) b8 < c3 w x y p v) (
 K (.slice w x y) v))→a3 b9 c0 c1 a2)→
 ID (e4=4) (
 rd_l n q 11 fun g8 f5 g9=>
 AL n [I64 f5] 2 fun f6 f7=>
 C_l 57 [.slice (some ⟨f6,0,none⟩) 1 1] f7 fun f8 f9 g0 g1=>
 AP #[24,24] 24 (L_l2 r t u f8 f9 g0) g1 fun g2 g3 g4 g5=>
 a3 g2 g3 g4 g5) (
 a3 r t u n)))):CF 33 ⟨[(qdj a b c d e f g i j k a0 s l m)]⟩ H K:=cE h
theorem qvc (h :
 AL H qf6 46 fun a c1=>
 AL c1 [I64 0] 28 fun b c2=>
 C_p 39 [.slice s l m] c2 fun c3 c4=>
 AL c4 [.pointer none] 109 fun e c5=>
 ST c5 e 0 [.pointer c3] fun a2=>
 q0y a2 e 0 fun c6=>
 P_u 49 [.agg #[.pointer c6]] a2 (fun r1 a3=>
 ∀b7:J_HP,(∀b6,(ST b6 a 0 [I64 (i64.wrap r1)] fun c7=>
 C_l 93 [PA a 0] c7 fun c8 a4 k0 c9=>
 ∃(a0:q1l) (b9:q3a),a0 0 c9∧
 ∀d c,a0 d c→
 ID (d < a4) (
 IA d a4 c8 fun d0 d1=>
 rd_p c d0 (d1+d.toNat) fun i=>
 q0y c e 0 fun d2=>
 P_i 43 [.agg #[.pointer d2]] c (fun r2 d3=>
 NN i (
 ST d3 (adrB i) (adrO i) [I64 r2] fun a5=>
 a0 (i64.wrap (d+1)) a5∧b9 (i64.wrap (d+1)) a5 < b9 d c)) (fun a6 d4=>
 memN 92 X.calls=true∧
 DefQ Tryz.prog 92 (L_a2 b 0 a 0) (panM a6 false) d4 fun d5 j=>d5=panM a6 true∧
 q0s j a 0 fun d6=>
 rd_i j b 0 fun d7=>
 K (V_vi (.agg ⟨d6⟩) d7) j)) (
 rd_i c a 0 fun d8=>
 ∀z:J_HP,(∀x,(rd_p x e 0 fun d9=>
 C_i 50 [.pointer d9] x fun r3 e0=>
 P_T_ 45 [I64 r3] e0 (fun a7=>
 q0s a7 a 0 fun e1=>
 C_b 34 [.agg ⟨e1⟩] a7 fun r4 a8=>
 ∀b8:J_HP,(∀y,(q0s y a 0 fun e2=>
 ST y a 0 e2 fun e3=>
 ST e3 b 0 [I64 0] fun e4=>
 memN 92 X.calls=true∧
 DefQ Tryz.prog 92 (L_a2 b 0 a 0) .returning e4 fun e5 k=>e5=.returning∧
 q0s k a 0 fun e6=>
 rd_i k b 0 fun e7=>
 K (V_vi (.agg ⟨e6⟩) e7) k)→b8 y)→
 IF (!r4) (
 memN 92 X.calls=true∧
 DefQ Tryz.prog 92 (L_a2 b 0 a 0) (panM (.iface 28 (I64 10)) false) a8 fun e8 n=>e8=panM (.iface 28 (I64 10)) true∧
 q0s n a 0 fun e9=>
 rd_i n b 0 fun f0=>
 K (V_vi (.agg ⟨e9⟩) f0) n) (
 b8 a8)) (fun a9 f1=>
 memN 92 X.calls=true∧
 DefQ Tryz.prog 92 (L_a2 b 0 a 0) (panM a9 false) f1 fun f2 o=>f2=panM a9 true∧
 q0s o a 0 fun f3=>
 rd_i o b 0 fun f4=>
 K (V_vi (.agg ⟨f3⟩) f4) o))→z x)→
 ID (d8=4) (
 q0y c e 0 fun f5=>
 P_i 42 (L_vi (.agg #[.pointer f5]) 64) c (fun r5 f6=>
 ∃(a1:q1l) (c0:q3a),a1 0 f6∧
 ∀g f,a1 g f→
 ID (g < r5) (
 rd_l f a 11 fun p q r=>
 q0y f e 0 fun f7=>
 qh7 94 [.agg #[.pointer f7]] f (fun f8 b0=>
 q02 b0 a 11=some (.slice p q r)∧
 AL b0 f8 95 fun f9 b1=>
 q02 b1 a 11=some (.slice p q r)∧
 AP #[44,44] 44 (L_l2 p q r (some ⟨f9,0,none⟩) 1 1) b1 fun g0 g1 g2 g3=>
 ST g3 a 11 [.slice g0 g1 g2] fun b2=>
 a1 (i64.wrap (g+1)) b2∧c0 (i64.wrap (g+1)) b2 < c0 g f) (fun b3 g4=>
 memN 92 X.calls=true∧
 DefQ Tryz.prog 92 (L_a2 b 0 a 0) (panM b3 false) g4 fun g5 t=>g5=panM b3 true∧
 q0s t a 0 fun g6=>
 rd_i t b 0 fun g7=>
 K (V_vi (.agg ⟨g6⟩) g7) t)) (
 z f)) (fun b4 g8=>
 memN 92 X.calls=true∧
 DefQ Tryz.prog 92 (L_a2 b 0 a 0) (panM b4 false) g8 fun g9 u=>g9=panM b4 true∧
 q0s u a 0 fun i0=>
 rd_i u b 0 fun i1=>
 K (V_vi (.agg ⟨i0⟩) i1) u)) (
 z c)))→b7 b6)→
 IF ((decide (r1 < 1)) || (decide (7 < r1))) (
 memN 92 X.calls=true∧
 DefQ Tryz.prog 92 (L_a2 b 0 a 0) (panM (.iface 28 (I64 16)) false) a3 fun i2 v=>i2=panM (.iface 28 (I64 16)) true∧
 q0s v a 0 fun i3=>
 rd_i v b 0 fun i4=>
 K (V_vi (.agg ⟨i3⟩) i4) v) (
 b7 a3)) (fun b5 i5=>
 memN 92 X.calls=true∧
 DefQ Tryz.prog 92 (L_a2 b 0 a 0) (panM b5 false) i5 fun i6 w=>i6=panM b5 true∧
 q0s w a 0 fun i7=>
 rd_i w b 0 fun i9=>
 K (V_vi (.agg ⟨i7⟩) i9) w)):CF 32 ⟨[.slice s l m]⟩ H K:=cE h
theorem St_At_c (h :
 AL H (L_i2 0 0) 53 fun c d=>
 rd_m d l (m+18) fun i=>
 LK_p 113 (.map i) (I64 a) d fun e=>
 IF e.isNone (
 ST d c 0 (L_i2 0 0) fun f=>
 q0c f c 0 fun j=>
 K (V_vi (.agg ⟨j⟩) 19) f) (
 q1y 91 (L_aipi l m a e b) d fun k n o=>
 ST o c 0 k fun g=>
 q0c g c 0 fun p=>
 K (V_vi (.agg ⟨p⟩) n) g)):CF 31 ⟨(qnl l m a b)⟩ H K:=cE h
theorem z5w (h :
 rd_i H l (m+11) fun a=>
 K (I64 a) H):CF 28 ⟨[PA l m]⟩ H K:=cE h
theorem z5x (h :
 rd_l H l (m+19) fun a b c=>
 C_l 85 [.slice a b c] H fun d e f g=>
 K (.slice d e f) g):CF 27 ⟨[PA l m]⟩ H K:=cE h
theorem z14 (h :
 AL H qdk 82 fun e t=>
 rd_p t l (m+15) fun x=>
 qiq 80 (L_pi x a) t fun y z a0=>
 AL a0 (L_i3 0 0 0) 78 fun f a1=>
 ST a1 f 0 y fun r=>
 IF (!z) (
 ST r e 0 qdk fun u=>
 qir u e 0 fun a2=>
 K (V_vb (.agg ⟨a2⟩) false) u) (
 rd_p r l (m+16) fun a3=>
 qf7 81 (L_pi a3 a) r fun a4 r4 a5=>
 AL a5 q7z 80 fun g a6=>
 ST a6 g 0 a4 fun c=>
 rd_m c l (m+18) fun a7=>
 LK_p 113 (.map a7) (I64 a) c fun b=>
 ∃c0 j k,q03 c f 0 (L_i3 c0 j k)∧
 ∃n o p q,q03 c g 0 (qug n o p q)∧
 NN b (
 rd_i c (adrB b) ((adrO b)+2) fun s=>
 NN b (
 rd_p c (adrB b) ((adrO b)+1) fun a8=>
 Q_i 82 [.pointer a8] c fun r5=>
 NN b (
 rd_p c (adrB b) ((adrO b)+1) fun a9=>
 NN b (
 rd_p c (adrB b) (adrO b) fun v=>
 C_l 83 [.pointer a9] c fun b3 b0 b4 d=>
 q02 d (adrB b) (adrO b)=some (.pointer v)∧
 q02 d (adrB b) ((adrO b)+2)=some (I64 s)∧
 q03 d g 0 (qug n o p q)∧
 q03 d f 0 (L_i3 c0 j k)∧
 C_l 84 [.pointer v] d fun b5 b1 b6 i=>
 q02 i (adrB b) ((adrO b)+2)=some (I64 s)∧
 q03 i g 0 (qug n o p q)∧
 q03 i f 0 (L_i3 c0 j k)∧
 ST i e 0 (L_i4b3i4 c0 j k n o p q s r5 b0 b1) fun w=>
 qir w e 0 fun b2=>
 K (V_vb (.agg ⟨b2⟩) true) w)))))):CF 26 ⟨(L_ai l m a)⟩ H K:=cE h
theorem St_Now_c (h :
 rd_i H l (m+9) fun a=>
 K (I64 a) H):CF 24 ⟨[PA l m]⟩ H K:=cE h
theorem z15 (h :
 rd_p H l (m+16) fun a=>
 Q_i 60 [.pointer a] H fun b=>
 K (I64 b) H):CF 23 ⟨[PA l m]⟩ H K:=cE h
theorem z16 (h :
 rd_p H l (m+17) fun a=>
 C_f 64 [.pointer a] H fun b c d=>
 K (.func (.func b) #[] ⟨c⟩) d):CF 21 ⟨[PA l m]⟩ H K:=cE h
theorem z17 (h :
 AL H (qby a b c d e f g i j k a0 s n o) 46 fun q a2=>
 q0s a2 q 0 fun b1=>
 C_b 34 [.agg ⟨b1⟩] a2 fun b2 v=>
 IF (!b2) (
 K (V_ni 10) v) (
 q0s v q 0 fun b3=>
 C_i 66 (L_av l m (.agg ⟨b3⟩)) v fun a3 p=>
 IN (a3=0) (
 K (V_ni a3) p) (
 rd_i p q 0 fun r=>
 ∀w:J_HP,(∀a6,(K (V_ni 0) a6)→w a6)→
 ID (r=1) (
 rd_i p l (m+10) fun b4=>
 ST p l (m+10) [I64 (i64.wrap (b4+1))] fun b5=>
 w b5) (
 ID (r=2) (
 q0s p q 0 fun b6=>
 qa5 67 (L_av l m (.agg ⟨b6⟩)) p fun b7 b8 b9 c0 c1=>
 K (V_li b7 b8 b9 c0) c1) (
 ∀x:J_HP,(∀a7,(w a7)→x a7)→
 ID (r=3) (
 rd_m p l (m+18) fun c2=>
 rd_i p q 1 fun c3=>
 LK_p 113 (.map c2) (I64 c3) p fun t=>
 NN t (
 rd_p p (adrB t) (adrO t) fun c4=>
 q5y p q 7 fun c5=>
 C_i 68 (L_pv c4 (.agg ⟨c5⟩)) p fun f8 u=>
 rd_p u l (m+16) fun c6=>
 rd_i u q 1 fun c7=>
 NN t (
 rd_p u (adrB t) (adrO t) fun c8=>
 Q_b 70 [.pointer c8] u fun c9=>
 C_i 69 [.pointer c6,I64 c7,.bool c9] u fun f9 a4=>
 rd_i a4 q 10 fun d0=>
 ST a4 l (m+9) [I64 d0] fun d1=>
 x d1))) (
 ID (r=4) (
 q0s p q 0 fun d2=>
 C_l 71 (L_av l m (.agg ⟨d2⟩)) p fun d3 d4 d5 d6=>
 K (V_li d3 d4 d5 0) d6) (
 ∀y:J_HP,(∀a8,(x a8)→y a8)→
 ID (r=5) (
 q0s p q 0 fun d7=>
 CF 72 ⟨(L_av l m (.agg ⟨d7⟩))⟩ p fun d8 d9=>d8=(.tuple #[])∧
 y d9) (
 ID (r=6) (
 rd_i p q 6 fun e0=>
 C_l 73 (L_ai l m e0) p fun e1 e2 e3 e4=>
 K (V_li e1 e2 e3 0) e4) (
 ∀z:J_HP,(∀a9,(y a9)→z a9)→
 ID (r=7) (
 rd_i p q 4 fun e5=>
 rd_i p l (m+11) fun e6=>
 ∀a1:J_HP,(∀b0,(z b0)→a1 b0)→
 ID (e6 < e5) (
 rd_l p l (m+19) fun e7 e8 e9=>
 rd_i p q 4 fun f0=>
 rd_i p l (m+11) fun f1=>
 C_l 74 (L_li2 e7 e8 e9 0 (i64.wrap (f0 - f1))) p fun f2 f3 f4 f5=>
 ST f5 l (m+19) [.slice f2 f3 f4] fun a5=>
 rd_i a5 q 4 fun f6=>
 ST a5 l (m+11) [I64 f6] fun f7=>
 a1 f7) (
 a1 p)) (
 z p)))))))))):CF 17 ⟨(L_av l m (qdj a b c d e f g i j k a0 s n o))⟩ H K:=cE h
theorem z18 (h :
 AL H (L_i9 a b c d e f g i j) 23 fun k o=>
 qca o k 0 fun a1=>
 C_b 13 [.agg ⟨a1⟩] o fun a2 n=>
 IF (!a2) (
 K (V_pi none 11) n) (
 ∃s t u v w x y z a0,q03 n k 0 (L_i9 s t u v w x y z a0)∧
 NM n fun a3 a4=>
 AL a4 [I64 s,I64 t,I64 u,I64 v,I64 w,I64 x,I64 y,I64 z,I64 a0,I64 0,I64 0,I64 0,I64 0,I64 0,I64 0,.pointer none,.pointer none,.pointer none,.map (some a3),.slice none 0 0] 115 fun l m=>
 rd_i m k 0 fun a5=>
 rd_i m k 1 fun a6=>
 rd_i m k 2 fun a7=>
 qis 20 (L_i3 a5 a6 a7) m fun a8 r3 a9=>
 ST a9 l 12 a8 fun p=>
 rd_i p k 6 fun b0=>
 q6r 54 [I64 b0] p fun r4 r5 b1=>
 ST b1 l 15 [.pointer r4] fun q=>
 rd_i q k 3 fun b2=>
 q6r 52 [I64 b2] q fun r6 r7 b3=>
 ST b3 l 16 [.pointer r6] fun r=>
 rd_i r k 7 fun b4=>
 q6r 55 [I64 b4] r fun b5 b8 b6=>
 ST b6 l 17 [.pointer b5] fun b7=>
 K (V_ai l 0 0) b7)):CF 16 ⟨[(A_i9 a b c d e f g i j)]⟩ H K:=cE h
theorem z19 (h :
 AL H [PA l m] 27 fun c f=>
 ∀y:qxr,(∀a b r,(rd_l r a b fun z a0 a1=>
 rd_p r c 0 fun a2=>
 NN a2 (
 rd_p r (adrB a2) ((adrO a2)+16) fun m2=>
 Q_i 60 [.pointer m2] r fun m3=>
 AL r [I64 m3] 2 fun m4 d1=>
 q02 d1 a b=some (.slice z a0 a1)∧
 C_l 59 [.slice (some ⟨m4,0,none⟩) 1 1] d1 fun m5 m6 m7 d2=>
 q02 d2 a b=some (.slice z a0 a1)∧
 AP #[24,24] 24 (L_l2 z a0 a1 m5 m6 m7) d2 fun m8 m9 n0 n1=>
 ST n1 a b [.slice m8 m9 n0] fun t=>
 rd_l t a b fun a3 a4 a5=>
 rd_p t c 0 fun a6=>
 NN a6 (
 rd_m t (adrB a6) ((adrO a6)+18) fun n2=>
 ∃k4:Int,q0d Tryz.prog (Builtin.len_ #[113] 3 #[.map n2]) t (.int .i64 k4)∧
 AL t [I64 k4] 2 fun n3 d3=>
 q02 d3 a b=some (.slice a3 a4 a5)∧
 C_l 57 [.slice (some ⟨n3,0,none⟩) 1 1] d3 fun n4 n5 n6 d4=>
 q02 d4 a b=some (.slice a3 a4 a5)∧
 AP #[24,24] 24 (L_l2 a3 a4 a5 n4 n5 n6) d4 fun n7 n8 n9 o0=>
 ST o0 a b [.slice n7 n8 n9] fun a7=>
 rd_p a7 c 0 fun a8=>
 NN a8 (
 rd_p a7 (adrB a8) ((adrO a8)+15) fun o1=>
 C_f 61 [.pointer o1] a7 fun d5 o2 e=>
 memN d5 X.calls=true∧
 ∀i:Loop,i.state=.ready→i.pending=none→
 (∀(k5:List Value) (c6:Heap) (k6:Value→Heap→Prop),(∃g9 i0 i1 i2,k5=(L_iv g9 (A_i3 i0 i1 i2))∧
 c6[e.size+1]?=some (.loop i)∧
 AL c6 (L_i3 0 0 0) 78 fun d6 o3=>
 ST o3 d6 0 (L_i3 i0 i1 i2) fun d7=>
 d7[e.size+1]?=some (.loop i)∧
 ∀u:Heap,u=q0m d7 (e.size+1) { i with state:=.busy }→
 rd_l u a b fun d8 d9 e0=>
 rd_p u c 0 fun o4=>
 q0x u d6 0 fun o5=>
 C_l 62 (L_piv o4 g9 (.agg ⟨o5⟩)) u fun o6 o7 o8 e1=>
 q02 e1 a b=some (.slice d8 d9 e0)∧
 AP #[24,24] 24 (L_l2 d8 d9 e0 o6 o7 o8) e1 fun o9 p0 p1 p2=>
 ST p2 a b [.slice o9 p0 p1] fun e2=>
 e2[e.size+1]?=some (.loop { i with state:=.busy })∧k6 (.bool true) (q0m e2 (e.size+1) i))→q44 Tryz.prog (e.size+1) k5 c6 k6)→
 CF d5 ⟨(.func (.yield (e.size+1)) #[] #[])::o2⟩ ((e.push (.deferred (some []))).push (.loop i)) fun x2 e3=>∃(k7:LoopState) (c7:Option Code),k7≠.busy∧e3[e.size+1]?=some (.loop { i with state:=k7,pending:=c7 })∧
 ∀s:Heap,s=q0m e3 (e.size+1) { i with state:=.exhausted,pending:=c7 }→
 c7=none∧
 rd_l s a b fun a9 b0 b1=>
 rd_p s c 0 fun b2=>
 NN b2 (
 rd_p s (adrB b2) ((adrO b2)+17) fun p3=>
 Q_i 63 [.pointer p3] s fun r1=>
 AL s [I64 r1] 2 fun p4 e4=>
 q02 e4 a b=some (.slice a9 b0 b1)∧
 C_l 57 [.slice (some ⟨p4,0,none⟩) 1 1] e4 fun p5 p6 p7 e5=>
 q02 e5 a b=some (.slice a9 b0 b1)∧
 AP #[24,24] 24 (L_l2 a9 b0 b1 p5 p6 p7) e5 fun p8 p9 q0 q1=>
 ST q1 a b [.slice p8 p9 q0] fun b3=>
 rd_p b3 c 0 fun b4=>
 NN b4 (
 rd_p b3 (adrB b4) ((adrO b4)+17) fun q2=>
 C_f 64 [.pointer q2] b3 fun e6 q3 d=>
 memN e6 X.calls=true∧
 ∀R1:Loop,R1.state=.ready→R1.pending=none→
 (∀(k8:List Value) (c8:Heap) (k9:Value→Heap→Prop),(∃i3 i4 i5 i6 i7 i9 k0 k1 k2 k3,k8=(L_v2 (A_is i3 i4) (q1t i5 i6 i7 i9 k0 k1 k2 k3))∧
 c8[d.size+1]?=some (.loop R1)∧
 AL c8 (L_is 0 (⟨#[]⟩:ByteArray)) 55 fun e7 q4=>
 ST q4 e7 0 (L_is i3 i4) fun q5=>
 AL q5 q0a 62 fun e8 q6=>
 ST q6 e8 0 (q0v i5 i6 i7 i9 k0 k1 k2 k3) fun e9=>
 e9[d.size+1]?=some (.loop R1)∧
 ∀v:Heap,v=q0m e9 (d.size+1) { R1 with state:=.busy }→
 rd_l v a b fun f0 f1 f2=>
 q34 v e7 0 fun q7=>
 q06 v e8 0 fun q8=>
 C_l 65 (L_v2 (.agg ⟨q7⟩) (.agg ⟨q8⟩)) v fun q9 s0 s1 f3=>
 q02 f3 a b=some (.slice f0 f1 f2)∧
 AP #[24,24] 24 (L_l2 f0 f1 f2 q9 s0 s1) f3 fun s2 s3 s4 s5=>
 ST s5 a b [.slice s2 s3 s4] fun f4=>
 f4[d.size+1]?=some (.loop { R1 with state:=.busy })∧k9 (.bool true) (q0m f4 (d.size+1) R1))→q44 Tryz.prog (d.size+1) k8 c8 k9)→
 CF e6 ⟨(.func (.yield (d.size+1)) #[] #[])::q3⟩ ((d.push (.deferred (some []))).push (.loop R1)) fun x3 f5=>∃(m0:LoopState) (c9:Option Code),m0≠.busy∧f5[d.size+1]?=some (.loop { R1 with state:=m0,pending:=c9 })∧
 ∀w:Heap,w=q0m f5 (d.size+1) { R1 with state:=.exhausted,pending:=c9 }→
 c9=none∧
 rd_l w a b fun b5 b6 b7=>
 rd_p w c 0 fun b8=>
 NN b8 (
 rd_l w (adrB b8) ((adrO b8)+19) fun x4 s6 x5=>
 AL w [I64 s6] 2 fun s7 f6=>
 q02 f6 a b=some (.slice b5 b6 b7)∧
 C_l 57 [.slice (some ⟨s7,0,none⟩) 1 1] f6 fun s8 s9 t0 f7=>
 q02 f7 a b=some (.slice b5 b6 b7)∧
 AP #[24,24] 24 (L_l2 b5 b6 b7 s8 s9 t0) f7 fun t1 t2 t3 t4=>
 ST t4 a b [.slice t1 t2 t3] fun b9=>
 rd_p b9 c 0 fun c0=>
 NN c0 (
 rd_l b9 (adrB c0) ((adrO c0)+19) fun t5 f8 x6=>
 ∃(d0:q1l) (m1:q3a),d0 0 b9∧
 ∀k j,d0 k j→
 ID (k < f8) (
 IA k f8 t5 fun t6 t7=>
 q3l j t6 (t7+k.toNat*74) fun t8=>
 AL j q6q 64 fun c1 t9=>
 ST t9 c1 0 t8 fun x=>
 rd_l x a b fun f9 g0 g1=>
 q34 x c1 0 fun u0=>
 q06 x c1 2 fun u1=>
 C_l 65 (L_v2 (.agg ⟨u0⟩) (.agg ⟨u1⟩)) x fun u2 u3 u4 g2=>
 q02 g2 a b=some (.slice f9 g0 g1)∧
 AP #[24,24] 24 (L_l2 f9 g0 g1 u2 u3 u4) g2 fun u5 u6 u7 u9=>
 ST u9 a b [.slice u5 u6 u7] fun g3=>
 d0 (i64.wrap (k+1)) g3∧m1 (i64.wrap (k+1)) g3 < m1 k j) (
 rd_l j a b fun v0 v1 v2=>
 j[d.size]?=some (.deferred (some []))∧
 (j.setIfInBounds d.size (.deferred none))[e.size]?=some (.deferred (some []))∧
 K (.slice v0 v1 v2) ((j.setIfInBounds d.size (.deferred none)).setIfInBounds e.size (.deferred none)))))))))))→y a b r)→
 rd_p f c 0 fun n=>
 NN n (
 rd_i f (adrB n) ((adrO n)+9) fun c2=>
 rd_p f c 0 fun o=>
 NN o (
 rd_i f (adrB o) ((adrO o)+10) fun c3=>
 rd_p f c 0 fun p=>
 NN p (
 rd_i f (adrB p) ((adrO p)+11) fun c4=>
 rd_p f c 0 fun q=>
 NN q (
 rd_p f (adrB q) ((adrO q)+16) fun c5=>
 Q_i 58 [.pointer c5] f fun r2=>
 (AL f (L_i4 c2 c3 c4 r2) 2 fun g4 g5=>
 (C_l 57 [.slice (some ⟨g4,0,none⟩) 4 4] g5 fun v3 v4 v5 v6=>
 AL v6 [.slice none 0 0] 24 fun g6 v7=>
 ST v7 g6 0 [.slice v3 v4 v5] fun v8=>
 y g6 0 v8)∧
 (AL g5 [.slice none 0 0] 24 fun g7 v9=>
 C_l 57 [.slice (some ⟨g4,0,none⟩) 4 4] v9 fun w0 w1 w2 w3=>
 ST w3 g7 0 [.slice w0 w1 w2] fun w4=>
 y g7 0 w4))∧
 (AL f [.slice none 0 0] 24 fun g8 g=>
 CQ 58 #[.pointer c5] g (I64 r2)∧
 q02 g (adrB q) ((adrO q)+16)=some (.pointer c5)∧
 q02 g c 0=some (.pointer q)∧
 q02 g (adrB p) ((adrO p)+11)=some (I64 c4)∧
 q02 g c 0=some (.pointer p)∧
 q02 g (adrB o) ((adrO o)+10)=some (I64 c3)∧
 q02 g c 0=some (.pointer o)∧
 q02 g (adrB n) ((adrO n)+9)=some (I64 c2)∧
 q02 g c 0=some (.pointer n)∧
 AL g (L_i4 c2 c3 c4 r2) 2 fun w5 w6=>
 C_l 57 [.slice (some ⟨w5,0,none⟩) 4 4] w6 fun w7 w8 w9 x0=>
 ST x0 g8 0 [.slice w7 w8 w9] fun x1=>
 y g8 0 x1)))))):CF 15 ⟨[PA l m]⟩ H K:=cE h
theorem qch (h :
 AL H (L_i9 a b c d e f g i j) 23 fun k l=>
 rd_i l k 0 fun s=>
 rd_i l k 1 fun t=>
 rd_i l k 2 fun u=>
 qis 20 (L_i3 s t u) l fun v w x=>
 AL x (L_i3 0 0 0) 70 fun y z=>
 ST z y 0 v fun n=>
 rd_i n k 3 fun a0=>
 q6r 52 [I64 a0] n fun r3 r4 m=>
 rd_i m k 4 fun a1=>
 rd_i m k 5 fun a2=>
 q6r 53 (L_i2 a1 a2) m fun r5 r6 o=>
 rd_i o k 6 fun a3=>
 q6r 54 [I64 a3] o fun r7 a4 p=>
 rd_i p k 7 fun a5=>
 q6r 55 [I64 a5] p fun b0 a6 q=>
 rd_i q k 8 fun a7=>
 q6r 56 (L_i2 0 a7) q fun b1 a8 a9=>
 ∃r:Bool,q5w Tryz.prog .eql 138 (A_i6 w r4 r6 a4 a6 a8) ZA_i6 r∧
 K (.bool r) a9):CF 13 ⟨[(A_i9 a b c d e f g i j)]⟩ H K:=cE h
def q2n.l2 (am:Option Addr)(an ao:Nat)(K:KT)(a b o:Nat)(ap:Int→Heap→Prop)(p:Int→Heap→Nat)(g:Int)(e:Heap):Prop:=
 ID (0 < g) (
 q0y e o 0 fun aq=>
 q61 47 [.agg #[.pointer aq]] e (fun ar au av=>
 AL av (L_is 0 (⟨#[]⟩:ByteArray)) 55 fun ab aw=>
 AL aw q0a 62 fun ac ax=>
 ST ax ab 0 ar fun ay=>
 ST ay ac 0 au fun c=>
 rd_p c a 0 fun f=>
 rd_p c a 0 fun d=>
 NN d (
 rd_l c (adrB d) ((adrO d)+19) fun ad ae af=>
 ∃q r,q03 c ab 0 (L_is q r)∧
 ∃s t u v w x y z,q03 c ac 0 (q0v s t u v w x y z)∧
 AL c (q5j q r s t u v w x y z) 64 fun az i=>
 q02 i (adrB d) ((adrO d)+19)=some (.slice ad ae af)∧
 q02 i a 0=some (.pointer d)∧
 q02 i a 0=some (.pointer f)∧
 AP #[86,86] 86 (L_l2 ad ae af (some ⟨az,0,none⟩) 1 1) i fun a0 a1 a2 ag=>
 q02 ag a 0=some (.pointer f)∧
 NN f (
 ST ag (adrB f) ((adrO f)+19) [.slice a0 a1 a2] fun ah=>
 ap (u64.wrap (g - 1)) ah∧p (u64.wrap (g - 1)) ah < p g e))) (fun ai a3=>
 memN 37 X.calls=true∧
 DefQ Tryz.prog 37 (L_a2 a 0 b 0) (panM ai false) a3 fun a4 k=>a4=panM ai true∧
 rd_p k a 0 fun a5=>
 rd_i k b 0 fun a6=>
 K (V_pi a5 a6) k)) (
 rd_p e o 0 fun a7=>
 C_i 50 [.pointer a7] e fun a8 a9=>
 P_T_ 45 [I64 a8] a9 (fun aj=>
 rd_p aj a 0 fun ba=>
 C_l 15 [.pointer ba] aj fun bb bc bd be=>
 C_b 51 (L_l2 bb bc bd am an ao) be fun bf ak=>
 ∀aa:J_HP,(∀j,(rd_p j a 0 fun bg=>
 ST j a 0 [.pointer bg] fun bh=>
 ST bh b 0 [I64 0] fun bi=>
 memN 37 X.calls=true∧
 DefQ Tryz.prog 37 (L_a2 a 0 b 0) .returning bi fun bj l=>bj=.returning∧
 rd_p l a 0 fun bk=>
 rd_i l b 0 fun bl=>
 K (V_pi bk bl) l)→aa j)→
 IF (!bf) (
 memN 37 X.calls=true∧
 DefQ Tryz.prog 37 (L_a2 a 0 b 0) (panM (.iface 28 (I64 10)) false) ak fun bm m=>bm=panM (.iface 28 (I64 10)) true∧
 rd_p m a 0 fun bn=>
 rd_i m b 0 fun bo=>
 K (V_pi bn bo) m) (
 aa ak)) (fun al bp=>
 memN 37 X.calls=true∧
 DefQ Tryz.prog 37 (L_a2 a 0 b 0) (panM al false) bp fun bq n=>bq=panM al true∧
 rd_p n a 0 fun br=>
 rd_i n b 0 fun bs=>
 K (V_pi br bs) n))
def q2n.l3 (v:Option Addr)(w x:Nat)(K:KT)(a b f:Nat)(y:Int)(z:Int→Heap→Prop)(m:Int→Heap→Nat)(e:Int)(c:Heap):Prop:=
 ID (e < y) (
 q0y c f 0 fun ab=>
 q61 47 [.agg #[.pointer ab]] c (fun ac ad ae=>
 AL ae (L_is 0 (⟨#[]⟩:ByteArray)) 55 fun p af=>
 AL af q0a 62 fun q ag=>
 ST ag p 0 ac fun ah=>
 ST ah q 0 ad fun d=>
 rd_p d a 0 fun i=>
 NN i (
 rd_p d (adrB i) ((adrO i)+17) fun ai=>
 q34 d p 0 fun aj=>
 q06 d q 0 fun ak=>
 C_i 48 [.pointer ai,.agg ⟨aj⟩,.agg ⟨ak⟩] d fun al am=>
 P_T_ 45 [I64 al] am (fun r=>
 z (i64.wrap (e+1)) r∧m (i64.wrap (e+1)) r < m e c) (fun s an=>
 memN 37 X.calls=true∧
 DefQ Tryz.prog 37 (L_a2 a 0 b 0) (panM s false) an fun ao j=>ao=panM s true∧
 rd_p j a 0 fun ap=>
 rd_i j b 0 fun aq=>
 K (V_pi ap aq) j))) (fun t ar=>
 memN 37 X.calls=true∧
 DefQ Tryz.prog 37 (L_a2 a 0 b 0) (panM t false) ar fun au k=>au=panM t true∧
 rd_p k a 0 fun av=>
 rd_i k b 0 fun aw=>
 K (V_pi av aw) k)) (
 q0y c f 0 fun ax=>
 P_u 49 [.agg #[.pointer ax]] c (fun ay az=>
 ∃(g:q1l) (aa:q3a),g ay az∧
 ∀n o,g n o→q2n.l2 v w x K a b f g aa n o) (fun u a0=>
 memN 37 X.calls=true∧
 DefQ Tryz.prog 37 (L_a2 a 0 b 0) (panM u false) a0 fun a1 l=>a1=panM u true∧
 rd_p l a 0 fun a2=>
 rd_i l b 0 fun a3=>
 K (V_pi a2 a3) l))
def q2n.l4 (ac:Option Addr)(ad ae:Nat)(K:KT)(a b d:Nat)(r6 r7:Int)(n:Nat)(af:Int)(ag:Int→Heap→Prop)(o:Int→Heap→Nat)(e:Int)(c:Heap):Prop:=
 ID (e < af) (
 q0y c d 0 fun ai=>
 P_i 43 [.agg #[.pointer ai]] c (fun v g=>
 q0y g d 0 fun aj=>
 rd_p g a 0 fun ak=>
 CP 44 ⟨[.agg #[.pointer aj],.pointer ak,I64 v]⟩ g (fun al am=>∃p q r s,al=(qqj p q r s)∧
 MU 116 (.map (some n)) (I64 v) (qqj p q r s) am fun w=>
 ag (i64.wrap (e+1)) w∧o (i64.wrap (e+1)) w < o e c) (fun x an=>
 memN 37 X.calls=true∧
 DefQ Tryz.prog 37 (L_a2 a 0 b 0) (panM x false) an fun ao i=>ao=panM x true∧
 rd_p i a 0 fun ap=>
 rd_i i b 0 fun aq=>
 K (V_pi ap aq) i)) (fun y ar=>
 memN 37 X.calls=true∧
 DefQ Tryz.prog 37 (L_a2 a 0 b 0) (panM y false) ar fun au j=>au=panM y true∧
 rd_p j a 0 fun av=>
 rd_i j b 0 fun aw=>
 K (V_pi av aw) j)) (
 rd_p c a 0 fun k=>
 NN k (
 rd_p c (adrB k) ((adrO k)+16) fun ax=>
 C_i 46 [.pointer ax,I64 r6,I64 r7,.map (some n)] c fun ay az=>
 P_T_ 45 [I64 ay] az (fun z=>
 q0y z d 0 fun a0=>
 P_i 42 (L_vi (.agg #[.pointer a0]) 1024) z (fun a1 a2=>
 ∃(f:q1l) (ah:q3a),f 0 a2∧
 ∀t u,f t u→q2n.l3 ac ad ae K a b d a1 f ah t u) (fun aa a3=>
 memN 37 X.calls=true∧
 DefQ Tryz.prog 37 (L_a2 a 0 b 0) (panM aa false) a3 fun a4 l=>a4=panM aa true∧
 rd_p l a 0 fun a5=>
 rd_i l b 0 fun a6=>
 K (V_pi a5 a6) l)) (fun ab a7=>
 memN 37 X.calls=true∧
 DefQ Tryz.prog 37 (L_a2 a 0 b 0) (panM ab false) a7 fun a8 m=>a8=panM ab true∧
 rd_p m a 0 fun a9=>
 rd_i m b 0 fun ba=>
 K (V_pi a9 ba) m)))
theorem qru (h :
 AL H (L_i9 a b c d e f g i j) 23 fun c6 c7=>
 AL c7 [.pointer none] 27 fun k c8=>
 AL c8 [I64 0] 28 fun n b0=>
 qca b0 c6 0 fun c9=>
 q6r 16 [.agg ⟨c9⟩] b0 fun d0 r1 d1=>
 ST d1 k 0 [.pointer d0] fun d2=>
 ST d2 n 0 [I64 r1] fun x=>
 rd_i x n 0 fun d3=>
 IN (d3=0) (
 rd_i x n 0 fun b1=>
 ST x k 0 [.pointer none] fun b2=>
 q02 b2 n 0=some (I64 b1)∧
 ST b2 n 0 [I64 b1] fun z=>
 rd_p z k 0 fun d4=>
 rd_i z n 0 fun d5=>
 K (V_pi d4 d5) z) (
 C_p 39 [.slice s l m] x fun r2 d6=>
 AL d6 [.pointer none] 109 fun o d7=>
 ST d7 o 0 [.pointer r2] fun q=>
 rd_p q k 0 fun t=>
 rd_p q k 0 fun r=>
 rd_p q k 0 fun p=>
 q0y q o 0 fun d8=>
 q0y q o 0 fun b3=>
 q0y q o 0 fun a0=>
 P_i 40 (L_vi (.agg #[.pointer d8]) 4611686018427387903) q (fun r3 u=>
 q03 u o 0 [.pointer a0]∧
 q03 u o 0 [.pointer b3]∧
 q02 u k 0=some (.pointer p)∧
 q02 u k 0=some (.pointer r)∧
 q02 u k 0=some (.pointer t)∧
 P_i 40 (L_vi (.agg #[.pointer b3]) 1099511627776) u (fun r4 v=>
 q03 v o 0 [.pointer a0]∧
 q02 v k 0=some (.pointer p)∧
 q02 v k 0=some (.pointer r)∧
 q02 v k 0=some (.pointer t)∧
 P_i 40 (L_vi (.agg #[.pointer a0]) 1099511627776) v (fun r5 y=>
 q02 y k 0=some (.pointer p)∧
 q02 y k 0=some (.pointer r)∧
 q02 y k 0=some (.pointer t)∧
 NN t (
 ST y (adrB t) ((adrO t)+9) [I64 r3] fun a1=>
 q02 a1 k 0=some (.pointer p)∧
 q02 a1 k 0=some (.pointer r)∧
 NN r (
 ST a1 (adrB r) ((adrO r)+10) [I64 r4] fun b4=>
 q02 b4 k 0=some (.pointer p)∧
 NN p (
 ST b4 (adrB p) ((adrO p)+11) [I64 r5] fun w=>
 q0y w o 0 fun d9=>
 rd_p w k 0 fun a2=>
 NN a2 (
 rd_i w (adrB a2) ((adrO a2)+9) fun e0=>
 q0y w o 0 fun b5=>
 P_i 40 (L_vi (.agg #[.pointer d9]) e0) w (fun r6 b6=>
 q03 b6 o 0 [.pointer b5]∧
 P_i 41 [.agg #[.pointer b5]] b6 (fun r7 e1=>
 NM e1 fun e2 b7=>
 q0y b7 o 0 fun e3=>
 P_i 42 (L_vi (.agg #[.pointer e3]) 64) b7 (fun e4 e5=>
 ∃(a9:q1l) (i0:q3a),a9 0 e5∧
 ∀c4 c5,a9 c4 c5→q2n.l4 s l m K k n o r6 r7 e2 e4 a9 i0 c4 c5) (fun b8 e6=>
 memN 37 X.calls=true∧
 DefQ Tryz.prog 37 (L_a2 k 0 n 0) (panM b8 false) e6 fun e7 a3=>e7=panM b8 true∧
 rd_p a3 k 0 fun e8=>
 rd_i a3 n 0 fun e9=>
 K (V_pi e8 e9) a3)) (fun b9 f0=>
 memN 37 X.calls=true∧
 DefQ Tryz.prog 37 (L_a2 k 0 n 0) (panM b9 false) f0 fun f1 a4=>f1=panM b9 true∧
 rd_p a4 k 0 fun f2=>
 rd_i a4 n 0 fun f3=>
 K (V_pi f2 f3) a4)) (fun c0 f4=>
 memN 37 X.calls=true∧
 DefQ Tryz.prog 37 (L_a2 k 0 n 0) (panM c0 false) f4 fun f5 a5=>f5=panM c0 true∧
 rd_p a5 k 0 fun f6=>
 rd_i a5 n 0 fun f7=>
 K (V_pi f6 f7) a5)))))) (fun c1 f8=>
 memN 37 X.calls=true∧
 DefQ Tryz.prog 37 (L_a2 k 0 n 0) (panM c1 false) f8 fun f9 a6=>f9=panM c1 true∧
 rd_p a6 k 0 fun g0=>
 rd_i a6 n 0 fun g1=>
 K (V_pi g0 g1) a6)) (fun c2 g2=>
 memN 37 X.calls=true∧
 DefQ Tryz.prog 37 (L_a2 k 0 n 0) (panM c2 false) g2 fun g3 a7=>g3=panM c2 true∧
 rd_p a7 k 0 fun g4=>
 rd_i a7 n 0 fun g5=>
 K (V_pi g4 g5) a7)) (fun c3 g6=>
 memN 37 X.calls=true∧
 DefQ Tryz.prog 37 (L_a2 k 0 n 0) (panM c3 false) g6 fun g7 a8=>g7=panM c3 true∧
 rd_p a8 k 0 fun g8=>
 rd_i a8 n 0 fun g9=>
 K (V_pi g8 g9) a8))):CF 11 ⟨(L_vl (A_i9 a b c d e f g i j) s l m)⟩ H K:=cE h
end
open Go.Nm
section
variable {a b c d e f g i j k a0 a1 a2 a3 a4 a5 a6 a7 a8 a9 b0 b1 b2 b3 b4 b5 b6 b7 b8 b9 c0 c1 c2 c3 c4 c5 c6 c7 c8 c9 d0 d1 d2 d3 d4 d5 d6 d7 d8 d9 e0 e1 e2 e3 e4 e5 e6 e7 e8 e9 f0 f1 f2 f3 f4 f5 f6 f7 f8 f9 g0 g1 g2 g3 g4 g5 g6 g7 g8 g9 i0 i1 i2 i3 i4 i5 i6 i7 i9 k0 k1 k2 k3 k4 k5 k6 k7 k8 k9 m0 m1 m2 m3 m4 m5 m6 m7 m8 m9 n0:Int} {l m n o p q r n1 n2 n3 n4 n5 n6 n7 n8 n9 o0 o1 o2 o3 o4 o5 o6 o7 o8 o9 p0 p1 p2 p3 p4 p5 p6 p7 p8 p9 q0 q1 q2 q3 q4 q5 q6 q7 q8 q9 s0 s1 s2 s3 s4 s5 s6 s7 s8 s9 t0 t1 t2 t3 t4 t5 t6 t7 t8 t9 u0:Nat} {s t u v u1 u2 u3 u4 u5 u6 u7 u9 v0 v1 v2 v3 v4 v5 v6 v7 v8 v9 w0 w1 w2 w3 w4 w5 w6 w7 w8 w9 x0 x1:Option Addr} {w x x2 x3 x4 x5 x6 x7 x8 x9 z0 z1 z2 z3 z4 z5 z6:ByteArray} {y z7 z8 z9 aa ab ac ad ae af ag ai aj ak al am:Bool} {z an ao ap aq ar au av aw:Nat→Int} {az ah ba bb bc bd be bf:Value} {bj bk bl bm bn bo bp bq:List Value} {bt bu bv bw bx bz:FuncId} {cb cc cd ce cf cg ci cj ck cl cm cn:Option Nat} {H:Heap} {K KP:Value→Heap→Prop}
theorem qvd (h :
 AL H q0a 62 fun b d2=>
 C_p 39 [.slice s l m] d2 fun c d3=>
 C_u 114 [.pointer c] d3 fun r1 d4=>
 C_u 114 [.pointer c] d4 fun r2 d5=>
 C_u 114 [.pointer c] d5 fun r3 d6=>
 AL d6 (L_u3 0 0 0) 278 fun n d7=>
 ST d7 n 0 (L_u3 r1 r2 r3) fun d8=>
 C_i 101 [.pointer c] d8 fun r4 d9=>
 C_i 101 [.pointer c] d9 fun r5 e0=>
 C_s 110 (L_pi c 16) e0 fun r6 e1=>
 C_i 103 (L_pi c 65) e1 fun r7 e2=>
 ∃(z:q19) (c9:q1a),z none 0 0 0 e2∧
 ∀o i y p q,z o i y p q→
 ID (p < r7) (
 C_u 114 [.pointer c] q fun e3 e4=>
 C_u 114 [.pointer c] e4 fun e5 e6=>
 AL e6 (L_u2 e3 e5) 280 fun e7 e8=>
 AP #[279,279] 279 (L_l2 o i y (some ⟨e7,0,none⟩) 1 1) e8 fun a2 a3 a4 a5=>
 z a2 a3 a4 (i64.wrap (p+1)) a5∧c9 a2 a3 a4 (i64.wrap (p+1)) a5 < c9 o i y p q) (
 C_i 50 [.pointer c] q fun a6 r=>
 IN (a6=0) (
 ST r b 0 q0a fun a7=>
 q06 a7 b 0 fun e9=>
 K (V_vi (.agg ⟨e9⟩) a6) a7) (
 rd_Au3_ r n 0 fun c0 f0 f1=>
 ∃(a0:q1l) (d0:q3a),a0 0 r∧
 ∀j e,a0 j e→
 ID (j < 3) (
 ∃b7,q4v Tryz.prog (Instr.index 278 (.agg ⟨[.int .u64 c0,.int .u64 f0,.int .u64 f1]⟩) (I64 j)) (.int .u64 b7)∧
 ID (9223372036854775807 < b7) (
 ST e b 0 q0a fun a8=>
 q06 a8 b 0 fun f2=>
 K (V_vi (.agg ⟨f2⟩) 10) a8) (
 a0 (i64.wrap (j+1)) e∧d0 (i64.wrap (j+1)) e < d0 j e)) (
 (IX 0 3)∧
 rd_u e n (0+0) fun f3=>
 (IX 1 3)∧
 rd_u e n (0+1) fun f4=>
 (IX 2 3)∧
 rd_u e n (0+2) fun f5=>
 AL e q0a 62 fun f f6=>
 ST f6 f 0 (q0v (i64.wrap f3) 0 0 0 0 (i64.wrap f4) (i64.wrap f5) Z0) fun f7=>
 ST f7 f 3 [I64 r4] fun f8=>
 ST f8 f 4 [I64 r5] fun f9=>
 RunW Tryz.prog (convert 9 24 (.string r6)) f9 fun g0 g1=>
 ∃b8 b9 c1,g0=(.slice b8 b9 c1)∧
 CF 173 ⟨[.slice b8 b9 c1]⟩ g1 fun g2 g3=>∃c2 c3 c4,g2=(V_vb (A_iu c2 c3) c4)∧
 AL g3 (L_iu 0 0) 58 fun a9 g4=>
 ST g4 a9 0 (L_iu c2 c3) fun t=>
 IF (!c4) (
 ST t b 0 q0a fun b0=>
 q06 b0 b 0 fun g5=>
 K (V_vi (.agg ⟨g5⟩) 10) b0) (
 q51 t a9 0 fun g6=>
 ST t f 1 g6 fun g7=>
 ∃(a1:q1l) (d1:q3a),a1 0 g7∧
 ∀a k,a1 a k→
 ID (a < i) (
 IA a i o fun g8 g9=>
 ∃c5 c6,q03 k g8 (g9+a.toNat*2) (L_u2 c5 c6)∧
 AL k (L_u2 0 0) 280 fun g i0=>
 ST i0 g 0 (L_u2 c5 c6) fun d=>
 (((decide (0 < a))=true)→(IX 0 2))∧
 gd_u ((decide (0 < a))=true) d g (0+0) fun u=>
 (((decide (0 < a))=true)→(IX (i64.wrap (a - 1)) i))∧∃c7 c8:Nat,(((decide (0 < a))=true)→(o=some ⟨c7,c8,none⟩))∧
 (((decide (0 < a))=true)→(IX 0 2))∧
 gd_u ((decide (0 < a))=true) d c7 (c8+(i64.wrap (a - 1)).toNat*2+0) fun v=>
 ((((decide (0 < a)) && (decide (u≤v)))=false)→(IX 0 2))∧
 gd_u (((decide (0 < a)) && (decide (u≤v)))=false) d g (0+0) fun i1=>
 IF (((decide (0 < a)) && (decide (u≤v))) || (decide (65≤i1))) (
 ST d b 0 q0a fun b1=>
 q06 b1 b 0 fun i2=>
 K (V_vi (.agg ⟨i2⟩) 10) b1) (
 (IX 1 2)∧
 rd_u d g (0+1) fun w=>
 (((decide (w=0))=false)→(IX 1 2))∧
 gd_u ((decide (w=0))=false) d g (0+1) fun i3=>
 IF ((decide (w=0)) || (decide (9223372036854775807 < i3))) (
 ST d b 0 q0a fun b2=>
 q06 b2 b 0 fun i4=>
 K (V_vi (.agg ⟨i4⟩) 10) b2) (
 (IX 0 2)∧
 rd_u d g (0+0) fun b3=>
 (IX 1 2)∧
 rd_u d g (0+1) fun i5=>
 (IX b3 65)∧
 ST d f (7+b3.toNat) [I64 (i64.wrap i5)] fun b4=>
 a1 (i64.wrap (a+1)) b4∧d1 (i64.wrap (a+1)) b4 < d1 a k))) (
 q06 k f 0 fun i6=>
 C_b 25 [.agg ⟨i6⟩] k fun i7 x=>
 IF (!i7) (
 ST x b 0 q0a fun b5=>
 q06 b5 b 0 fun i9=>
 K (V_vi (.agg ⟨i9⟩) 10) b5) (
 q06 x f 0 fun k0=>
 ST x b 0 k0 fun b6=>
 q06 b6 b 0 fun k1=>
 K (V_vi (.agg ⟨k1⟩) 0) b6))))))):CF 113 ⟨[.slice s l m]⟩ H K:=cE h
end
open Go.Nm
section
variable {a b c d e f g i j k a0 a1 a2 a3 a4 a5 a6 a7 a8 a9 b0 b1 b2 b3 b4 b5 b6 b7 b8 b9 c0 c1 c2 c3 c4 c5 c6 c7 c8 c9 d0 d1 d2 d3 d4 d5 d6 d7 d8 d9 e0 e1 e2 e3 e4 e5 e6 e7 e8 e9 f0 f1 f2 f3 f4 f5 f6 f7 f8 f9 g0 g1 g2 g3 g4 g5 g6 g7 g8 g9 i0 i1 i2 i3 i4 i5 i6 i7 i9 k0 k1 k2 k3 k4 k5 k6 k7 k8 k9 m0 m1 m2 m3 m4 m5 m6 m7 m8 m9 n0:Int} {l m n o p q r n1 n2 n3 n4 n5 n6 n7 n8 n9 o0 o1 o2 o3 o4 o5 o6 o7 o8 o9 p0 p1 p2 p3 p4 p5 p6 p7 p8 p9 q0 q1 q2 q3 q4 q5 q6 q7 q8 q9 s0 s1 s2 s3 s4 s5 s6 s7 s8 s9 t0 t1 t2 t3 t4 t5 t6 t7 t8 t9 u0:Nat} {s t u v u1 u2 u3 u4 u5 u6 u7 u9 v0 v1 v2 v3 v4 v5 v6 v7 v8 v9 w0 w1 w2 w3 w4 w5 w6 w7 w8 w9 x0 x1:Option Addr} {w x x2 x3 x4 x5 x6 x7 x8 x9 z0 z1 z2 z3 z4 z5 z6:ByteArray} {y z7 z8 z9 aa ab ac ad ae af ag ai aj ak al am:Bool} {z an ao ap aq ar au av aw:Nat→Int} {az ah ba bb bc bd be bf:Value} {bj bk bl bm bn bo bp bq:List Value} {bt bu bv bw bx bz:FuncId} {cb cc cd ce cf cg ci cj ck cl cm cn:Option Nat} {H:Heap} {K KP:Value→Heap→Prop}
theorem z5y (h :
 AL H (L_sl w s l m) 93 fun c e=>
 rd_l e c 1 fun y g z=>
 gd_s ((decide (100 < (g:Int)))=false) e c 0 fun n=>
 IF ((decide (100 < (g:Int))) || (decide (300 < (n.size:Int)))) (
 K (.bool true) e) (
 ∃(f:q1l) (k:q3a),f 0 e∧
 ∀b a,f b a→
 rd_l a c 1 fun a0 o a1=>
 ID (b < o) (
 rd_l a c 1 fun p q a2=>
 IA b q p fun r t=>
 rd_s a r (t+b.toNat*2) fun d=>
 gd_l ((decide (300 < (d.size:Int)))=false) a c 1 fun u v a3=>
 (((decide (300 < (d.size:Int)))=false)→(IX b v))∧∃i j:Nat,(((decide (300 < (d.size:Int)))=false)→(u=some ⟨i,j,none⟩))∧
 gd_s ((decide (300 < (d.size:Int)))=false) a i (j+b.toNat*2+1) fun x=>
 IF ((decide (300 < (d.size:Int))) || (decide (300 < (x.size:Int)))) (
 K (.bool true) a) (
 f (i64.wrap (b+1)) a∧k (i64.wrap (b+1)) a < k b a)) (
 K (.bool false) a))):CF 99 ⟨[(A_sl w s l m)]⟩ H K:=cE h
theorem z5z (h :
 AL H (qa2 a b c d e f g i j k s l m w t n o u p q) 104 fun x y=>
 ∀a2:qdi,(∀a5 a1,(IF a5 (
 K (.bool true) a1) (
 ∃(a3:q1l) (a6:q3a),a3 0 a1∧
 ∀r v,a3 r v→
 rd_l v x 10 fun b6 a7 b7=>
 ID (r < a7) (
 rd_l v x 10 fun a8 a9 b8=>
 IA r a9 a8 fun b0 b1=>
 q26 v b0 (b1+r.toNat*4+2) fun b2=>
 C_b 99 [.agg ⟨b2⟩] v fun b3 z=>
 IF b3 (
 K (.bool true) z) (
 a3 (i64.wrap (r+1)) z∧a6 (i64.wrap (r+1)) z < a6 r v)) (
 K (.bool false) v)))→a2 a5 a1)→
 rd_l y x 10 fun b9 a0 c0=>
 gd_l ((decide (100 < (a0:Int)))=false) y x 13 fun c1 a4 c2=>
 q5z (((decide (100 < (a0:Int))) || (decide (5000 < (a4:Int))))=false) y x 11 fun b4=>
 JF (((decide (100 < (a0:Int))) || (decide (5000 < (a4:Int))))=false) (
 C_b 99 [.agg ⟨b4⟩] y fun r1 b5=>
 a2 r1 b5) (
 a2 true y)):CF 36 ⟨[(qa3 a b c d e f g i j k s l m w t n o u p q)]⟩ H K:=cE h
theorem Small_c  {H:Heap}{K:Value→Heap→Prop}(h :
 AL H [I64 0,I64 0,I64 0,I64 0,I64 0,I64 0,I64 0,I64 0,I64 0] 23 fun b H_=>
 ST H_ b 0 (L_i9 10 0 1000 100 100 2 4 40 8) fun H_1=>
 qca H_1 b 0 fun l=>
 K (.agg ⟨l⟩) H_1):CF 30 ⟨[]⟩ H K:=cE h
theorem Made_c (h :
 AL H (L_i9 a b c d e f g i j) 23 fun v q=>
 qca q v 0 fun w=>
 q6r 16 [.agg ⟨w⟩] q fun o r1 r=>
 IF ((!decide (r1=0)) || o.isNone) (
 K (.pointer none) r) (
 ∃(p:q1l) (u:q3a),p 0 r∧
 ∀k n,p k n→
 ID (k < l) (
 IA k l s fun x y=>
 q0s n x (y+k.toNat*12) fun z=>
 C_Wi11l_ 18 [.agg ⟨z⟩] n fun a0 a1=>
 qa5 17 (L_pv o (.agg ⟨a0⟩)) a1 fun a2 a3 a4 a5 t=>
 p (i64.wrap (k+1)) t∧u (i64.wrap (k+1)) t < u k n) (
 K (.pointer o) n))):CF 19 ⟨(L_vl (A_i9 a b c d e f g i j) s l m)⟩ H K:=cE h
theorem Own_c (h :
 AL H (qby a b c d e f g i j k a0 s l m) 46 fun p a7=>
 AL a7 qf6 46 fun w a8=>
 AL a8 [] 95 fun a9 b0=>
 ∃(v:q19) (a6:q1a),v (some ⟨a9,0,none⟩) 0 0 0 b0∧
 ∀r t u n o,v r t u n o→
 rd_l o p 11 fun d2 b1 d3=>
 ID (n < b1) (
 rd_l o p 11 fun b2 b3 d4=>
 IA n b3 b2 fun b4 b5=>
 q15 o b4 (b5+n.toNat*4) fun b6=>
 AL o q50 95 fun q b7=>
 ST b7 q 0 b6 fun b8=>
 AL b8 [] 267 fun b9 x=>
 rd_l x q 3 fun c0 c1 c2=>
 AP #[91,91] 91 (L_l2 (some ⟨b9,0,none⟩) 0 0 c0 c1 c2) x fun c3 c4 c5 c6=>
 ST c6 q 3 [.slice c3 c4 c5] fun y=>
 q15 y q 0 fun c7=>
 AL y c7 95 fun c8 c9=>
 AP #[44,44] 44 (L_l2 r t u (some ⟨c8,0,none⟩) 1 1) c9 fun z a1 a2 a3=>
 v z a1 a2 (i64.wrap (n+1)) a3∧a6 z a1 a2 (i64.wrap (n+1)) a3 < a6 r t u n o) (
 ST o p 11 [.slice r t u] fun a4=>
 q0s a4 p 0 fun d0=>
 ST a4 w 0 d0 fun a5=>
 q0s a5 w 0 fun d1=>
 K (.agg ⟨d1⟩) a5)):CF 18 ⟨[(qdj a b c d e f g i j k a0 s l m)]⟩ H K:=cE h
theorem Great_c (h :
 AL H (L_i9 a b c d e f g i j) 23 fun r o=>
 gd_i ((decide (80 < (l:Int)))=false) o r 7 fun t=>
 gd_i (((decide (80 < (l:Int)))=false)∧(decide (200 < t))=true) o r 7 fun v=>
 IF ((decide (80 < (l:Int))) || ((decide (200 < t)) && (decide (v≤1024)))) (
 K (.bool true) o) (
 ∃(q:q1l) (u:q3a),q 0 o∧
 ∀k n,q k n→
 ID (k < l) (
 IA k l s fun w x=>
 rd_l n w (x+k.toNat*12+11) fun y z a0=>
 C_b 36 [(.agg ⟨[I64 0,I64 0,I64 0,I64 0,I64 0,I64 0,I64 0,I64 0,I64 0,I64 0,.slice y z a0,.string (⟨#[]⟩:ByteArray),.slice none 0 0,.slice none 0 0]⟩)] n fun a1 p=>
 IF a1 (
 K (.bool true) p) (
 q (i64.wrap (k+1)) p∧u (i64.wrap (k+1)) p < u k n)) (
 K (.bool false) n))):CF 10 ⟨(L_vl (A_i9 a b c d e f g i j) s l m)⟩ H K:=cE h
theorem alive_c  {H:Heap}{K:Value→Heap→Prop}(h :
 qbz 30 [] H fun l16 H_=>
 q6r 16 [.agg ⟨l16⟩] H_ fun r r9 H_1=>
 IF ((!decide (r9=0)) || r.isNone) (
 K (.bool false) H_1) (
 qa5 17 (L_pv r (qlk 2 3 0 1 0 0 0 0 0 0 0)) H_1 fun ra rn rc r10 H_2=>
 qa5 17 (L_pv r (qlk 3 3 1 0 0 0 0 0 0 0 2)) H_2 fun ra1 rn1 rc1 r11 H_3=>
 AL H_3 (L_sn (⟨#[]⟩:ByteArray)) 93 fun b H_4=>
 ST H_4 b 0 (L_sn (⟨#[109]⟩:ByteArray)) fun H_5=>
 ∃c0 c1a c1n c1c,q03 H_5 b 0 (L_sl c0 c1a c1n c1c)∧
 AL H_5 (qin 5 7 c0 c1a c1n c1c) 95 fun b1 H_6=>
 AL H_6 qf6 46 fun b2 H_7=>
 ST H_7 b2 0 (qby 4 3 1 0 0 0 9 0 0 0 0 (some ⟨b1,0,none⟩) 1 1) fun H_8=>
 q0s H_8 b2 0 fun l15=>
 qa5 17 (L_pv r (.agg ⟨l15⟩)) H_8 fun ra2 rn2 rc2 r12 H_9=>
 qdl 26 (L_pi r 3) H_9 fun l14 r13 H_10=>
 AL H_10 qdk 82 fun b3 H_11=>
 ST H_11 b3 0 l14 fun H_12=>
 q1y 31 (z5d r 3 5) H_12 fun l13 r14 H_13=>
 AL H_13 (L_i2 0 0) 53 fun b4 H_14=>
 ST H_14 b4 0 l13 fun H_15=>
 qa5 17 (L_pv r (qlk 6 0 0 0 0 0 200 0 0 0 0)) H_15 fun ra3 rn3 rc3 r15 H_16=>
 qbz 30 [] H_16 fun l12 H_17=>
 C_l 15 [.pointer r] H_17 fun ra4 rn4 rc4 H_18=>
 q6r 11 (L_vl (.agg ⟨l12⟩) ra4 rn4 rc4) H_18 fun r16 r17 H_19=>
 q0s H_19 b2 0 fun l11=>
 C_l 33 [.agg ⟨l11⟩] H_19 fun ra5 rn5 rc5 H_20=>
 CF 32 ⟨[.slice ra5 rn5 rc5]⟩ H_20 fun u12 H_21=>∃r0_4 r1_4 r2_3 r3_3 r4_3 r5_3 r6_3 r7_3 r8_3 r9_2 r10_2 r11a r11n r11c r18,u12=(V_vi (qdj r0_4 r1_4 r2_3 r3_3 r4_3 r5_3 r6_3 r7_3 r8_3 r9_2 r10_2 r11a r11n r11c) r18)∧
 AL H_21 qf6 46 fun b5 H_22=>
 ST H_22 b5 0 (qby r0_4 r1_4 r2_3 r3_3 r4_3 r5_3 r6_3 r7_3 r8_3 r9_2 r10_2 r11a r11n r11c) fun H_23=>
 qa5 17 (L_pv r (qlk 6 0 0 0 0 0 199 0 0 0 0)) H_23 fun ra6 rn6 rc6 r19 H_24=>
 qa5 17 (L_pv r (qlk 7 0 0 0 1 0 0 0 0 0 0)) H_24 fun ra7 rn7 rc7 r20 H_25=>
 qa5 17 (L_pv r (qlk 1 0 0 0 0 0 0 0 0 0 0)) H_25 fun ra8 rn8 rc8 r21 H_26=>
 IF (((((!decide ((rn:Int)=1)) || (!decide ((rn2:Int)=2))) || (!decide ((rn3:Int)=1))) || r16.isNone) || (!decide (r10=0))) (
 K (.bool false) H_26) (
 AL H_26 [I64 0] 3 fun b6 H_27=>
 ST H_27 b6 0 [I64 0] fun H_28=>
 C_f 21 [.pointer r16] H_28 fun rf rl H_29=>
 memN rf X.calls=true∧
 ∀R:Loop,R.state=.ready→R.pending=none→
 (∀(vs:List Value) (H_30:Heap) (K_:Value→Heap→Prop),(∃y0 y1 y0_1 y1_1 y2 y3 y4 y5 y6 y7,vs=(L_v2 (A_is y0 y1) (q1t y0_1 y1_1 y2 y3 y4 y5 y6 y7))∧
 H_30[H_29.size+1]?=some (.loop R)∧
 H_30[H_29.size+1]?=some (.loop R)∧
 ∀H_31,H_31=q0m H_30 (H_29.size+1) { R with state:=.busy }→
 rd_i H_31 b6 0 fun v=>
 ST H_31 b6 0 [I64 (i64.wrap (v+1))] fun H_32=>
 H_32[H_29.size+1]?=some (.loop { R with state:=.busy })∧K_ (.bool true) (q0m H_32 (H_29.size+1) R))→q44 Tryz.prog (H_29.size+1) vs H_30 K_)→
 CF rf ⟨(.func (.yield (H_29.size+1)) #[] #[])::rl⟩ ((H_29.push (.deferred (some []))).push (.loop R)) fun u17 H_33=>∃(st:LoopState) (pd:Option Code),st≠.busy∧H_33[H_29.size+1]?=some (.loop { R with state:=st,pending:=pd })∧
 ∀H_34,H_34=q0m H_33 (H_29.size+1) { R with state:=.exhausted,pending:=pd }→
 pd=none∧
 ∀Jn:qdi,(∀t0 H_35,(H_35[H_29.size]?=some (.deferred (some []))∧
 K (.bool t0) (H_35.setIfInBounds H_29.size (.deferred none)))→Jn t0 H_35)→
 ((((((((((((decide (r11=0)) && (decide (r12=0))) && r13) && (decide (r14=0))) && (decide (r15=0))) && (decide (r17=0))) && (decide (r18=0))) && (decide (r19=11))) && (decide (r20=0))) && (decide (r21=0)))=true)→(IX 0 rn))∧∃b7 o:Nat,((((((((((((decide (r11=0)) && (decide (r12=0))) && r13) && (decide (r14=0))) && (decide (r15=0))) && (decide (r17=0))) && (decide (r18=0))) && (decide (r19=11))) && (decide (r20=0))) && (decide (r21=0)))=true)→(ra=some ⟨b7,o,none⟩))∧
 gd_i (((((((((((decide (r11=0)) && (decide (r12=0))) && r13) && (decide (r14=0))) && (decide (r15=0))) && (decide (r17=0))) && (decide (r18=0))) && (decide (r19=11))) && (decide (r20=0))) && (decide (r21=0)))=true) H_34 b7 (o+0*87) fun v1=>
 (((((((((((((decide (r11=0)) && (decide (r12=0))) && r13) && (decide (r14=0))) && (decide (r15=0))) && (decide (r17=0))) && (decide (r18=0))) && (decide (r19=11))) && (decide (r20=0))) && (decide (r21=0))) && (decide (v1=1)))=true)→(IX 0 rn))∧∃b8 o1:Nat,(((((((((((((decide (r11=0)) && (decide (r12=0))) && r13) && (decide (r14=0))) && (decide (r15=0))) && (decide (r17=0))) && (decide (r18=0))) && (decide (r19=11))) && (decide (r20=0))) && (decide (r21=0))) && (decide (v1=1)))=true)→(ra=some ⟨b8,o1,none⟩))∧
 gd_i ((((((((((((decide (r11=0)) && (decide (r12=0))) && r13) && (decide (r14=0))) && (decide (r15=0))) && (decide (r17=0))) && (decide (r18=0))) && (decide (r19=11))) && (decide (r20=0))) && (decide (r21=0))) && (decide (v1=1)))=true) H_34 b8 (o1+0*87+2) fun v2=>
 ((((((((((((((decide (r11=0)) && (decide (r12=0))) && r13) && (decide (r14=0))) && (decide (r15=0))) && (decide (r17=0))) && (decide (r18=0))) && (decide (r19=11))) && (decide (r20=0))) && (decide (r21=0))) && (decide (v1=1))) && (decide (v2=1)))=true)→(IX 0 rn2))∧∃b9 o2:Nat,((((((((((((((decide (r11=0)) && (decide (r12=0))) && r13) && (decide (r14=0))) && (decide (r15=0))) && (decide (r17=0))) && (decide (r18=0))) && (decide (r19=11))) && (decide (r20=0))) && (decide (r21=0))) && (decide (v1=1))) && (decide (v2=1)))=true)→(ra2=some ⟨b9,o2,none⟩))∧
 gd_i (((((((((((((decide (r11=0)) && (decide (r12=0))) && r13) && (decide (r14=0))) && (decide (r15=0))) && (decide (r17=0))) && (decide (r18=0))) && (decide (r19=11))) && (decide (r20=0))) && (decide (r21=0))) && (decide (v1=1))) && (decide (v2=1)))=true) H_34 b9 (o2+0*87) fun v3=>
 (((((((((((((((decide (r11=0)) && (decide (r12=0))) && r13) && (decide (r14=0))) && (decide (r15=0))) && (decide (r17=0))) && (decide (r18=0))) && (decide (r19=11))) && (decide (r20=0))) && (decide (r21=0))) && (decide (v1=1))) && (decide (v2=1))) && (decide (v3=3)))=true)→(IX 0 rn2))∧∃b10 o3:Nat,(((((((((((((((decide (r11=0)) && (decide (r12=0))) && r13) && (decide (r14=0))) && (decide (r15=0))) && (decide (r17=0))) && (decide (r18=0))) && (decide (r19=11))) && (decide (r20=0))) && (decide (r21=0))) && (decide (v1=1))) && (decide (v2=1))) && (decide (v3=3)))=true)→(ra2=some ⟨b10,o3,none⟩))∧
 ∃c0_3 c1_2,(((((((((((((((decide (r11=0)) && (decide (r12=0))) && r13) && (decide (r14=0))) && (decide (r15=0))) && (decide (r17=0))) && (decide (r18=0))) && (decide (r19=11))) && (decide (r20=0))) && (decide (r21=0))) && (decide (v1=1))) && (decide (v2=1))) && (decide (v3=3)))=true)→q03 H_34 b10 (o3+0*87+9) (L_i2 c0_3 c1_2))∧
 ∃eq:Bool,(((((((((((((((decide (r11=0)) && (decide (r12=0))) && r13) && (decide (r14=0))) && (decide (r15=0))) && (decide (r17=0))) && (decide (r18=0))) && (decide (r19=11))) && (decide (r20=0))) && (decide (r21=0))) && (decide (v1=1))) && (decide (v2=1))) && (decide (v3=3)))=true)→q5w Tryz.prog .eql 51 (A_i2 c0_3 c1_2) (A_i2 0 0) eq)∧
 ((((((((((((((((decide (r11=0)) && (decide (r12=0))) && r13) && (decide (r14=0))) && (decide (r15=0))) && (decide (r17=0))) && (decide (r18=0))) && (decide (r19=11))) && (decide (r20=0))) && (decide (r21=0))) && (decide (v1=1))) && (decide (v2=1))) && (decide (v3=3))) && eq)=true)→(IX 1 rn2))∧∃b11 o4:Nat,((((((((((((((((decide (r11=0)) && (decide (r12=0))) && r13) && (decide (r14=0))) && (decide (r15=0))) && (decide (r17=0))) && (decide (r18=0))) && (decide (r19=11))) && (decide (r20=0))) && (decide (r21=0))) && (decide (v1=1))) && (decide (v2=1))) && (decide (v3=3))) && eq)=true)→(ra2=some ⟨b11,o4,none⟩))∧
 gd_i (((((((((((((((decide (r11=0)) && (decide (r12=0))) && r13) && (decide (r14=0))) && (decide (r15=0))) && (decide (r17=0))) && (decide (r18=0))) && (decide (r19=11))) && (decide (r20=0))) && (decide (r21=0))) && (decide (v1=1))) && (decide (v2=1))) && (decide (v3=3))) && eq)=true) H_34 b11 (o4+1*87) fun v4=>
 (((((((((((((((((decide (r11=0)) && (decide (r12=0))) && r13) && (decide (r14=0))) && (decide (r15=0))) && (decide (r17=0))) && (decide (r18=0))) && (decide (r19=11))) && (decide (r20=0))) && (decide (r21=0))) && (decide (v1=1))) && (decide (v2=1))) && (decide (v3=3))) && eq) && (decide (v4=2)))=true)→(IX 1 rn2))∧∃b12 o5:Nat,(((((((((((((((((decide (r11=0)) && (decide (r12=0))) && r13) && (decide (r14=0))) && (decide (r15=0))) && (decide (r17=0))) && (decide (r18=0))) && (decide (r19=11))) && (decide (r20=0))) && (decide (r21=0))) && (decide (v1=1))) && (decide (v2=1))) && (decide (v3=3))) && eq) && (decide (v4=2)))=true)→(ra2=some ⟨b12,o5,none⟩))∧
 gd_i ((((((((((((((((decide (r11=0)) && (decide (r12=0))) && r13) && (decide (r14=0))) && (decide (r15=0))) && (decide (r17=0))) && (decide (r18=0))) && (decide (r19=11))) && (decide (r20=0))) && (decide (r21=0))) && (decide (v1=1))) && (decide (v2=1))) && (decide (v3=3))) && eq) && (decide (v4=2)))=true) H_34 b12 (o5+1*87+4) fun v5=>
 ((((((((((((((((((decide (r11=0)) && (decide (r12=0))) && r13) && (decide (r14=0))) && (decide (r15=0))) && (decide (r17=0))) && (decide (r18=0))) && (decide (r19=11))) && (decide (r20=0))) && (decide (r21=0))) && (decide (v1=1))) && (decide (v2=1))) && (decide (v3=3))) && eq) && (decide (v4=2))) && (decide (v5=1)))=true)→(IX 0 rn3))∧∃b13 o6:Nat,((((((((((((((((((decide (r11=0)) && (decide (r12=0))) && r13) && (decide (r14=0))) && (decide (r15=0))) && (decide (r17=0))) && (decide (r18=0))) && (decide (r19=11))) && (decide (r20=0))) && (decide (r21=0))) && (decide (v1=1))) && (decide (v2=1))) && (decide (v3=3))) && eq) && (decide (v4=2))) && (decide (v5=1)))=true)→(ra3=some ⟨b13,o6,none⟩))∧
 gd_i (((((((((((((((((decide (r11=0)) && (decide (r12=0))) && r13) && (decide (r14=0))) && (decide (r15=0))) && (decide (r17=0))) && (decide (r18=0))) && (decide (r19=11))) && (decide (r20=0))) && (decide (r21=0))) && (decide (v1=1))) && (decide (v2=1))) && (decide (v3=3))) && eq) && (decide (v4=2))) && (decide (v5=1)))=true) H_34 b13 (o6+0*87) fun v6=>
 (((((((((((((((((((decide (r11=0)) && (decide (r12=0))) && r13) && (decide (r14=0))) && (decide (r15=0))) && (decide (r17=0))) && (decide (r18=0))) && (decide (r19=11))) && (decide (r20=0))) && (decide (r21=0))) && (decide (v1=1))) && (decide (v2=1))) && (decide (v3=3))) && eq) && (decide (v4=2))) && (decide (v5=1))) && (decide (v6=4)))=true)→(IX 0 rn3))∧∃b14 o7:Nat,(((((((((((((((((((decide (r11=0)) && (decide (r12=0))) && r13) && (decide (r14=0))) && (decide (r15=0))) && (decide (r17=0))) && (decide (r18=0))) && (decide (r19=11))) && (decide (r20=0))) && (decide (r21=0))) && (decide (v1=1))) && (decide (v2=1))) && (decide (v3=3))) && eq) && (decide (v4=2))) && (decide (v5=1))) && (decide (v6=4)))=true)→(ra3=some ⟨b14,o7,none⟩))∧
 gd_i ((((((((((((((((((decide (r11=0)) && (decide (r12=0))) && r13) && (decide (r14=0))) && (decide (r15=0))) && (decide (r17=0))) && (decide (r18=0))) && (decide (r19=11))) && (decide (r20=0))) && (decide (r21=0))) && (decide (v1=1))) && (decide (v2=1))) && (decide (v3=3))) && eq) && (decide (v4=2))) && (decide (v5=1))) && (decide (v6=4)))=true) H_34 b14 (o7+0*87+13+2+4) fun v7=>
 ((((((((((((((((((((decide (r11=0)) && (decide (r12=0))) && r13) && (decide (r14=0))) && (decide (r15=0))) && (decide (r17=0))) && (decide (r18=0))) && (decide (r19=11))) && (decide (r20=0))) && (decide (r21=0))) && (decide (v1=1))) && (decide (v2=1))) && (decide (v3=3))) && eq) && (decide (v4=2))) && (decide (v5=1))) && (decide (v6=4))) && (decide (v7=7)))=true)→(IX 0 rn3))∧∃b15 o8:Nat,((((((((((((((((((((decide (r11=0)) && (decide (r12=0))) && r13) && (decide (r14=0))) && (decide (r15=0))) && (decide (r17=0))) && (decide (r18=0))) && (decide (r19=11))) && (decide (r20=0))) && (decide (r21=0))) && (decide (v1=1))) && (decide (v2=1))) && (decide (v3=3))) && eq) && (decide (v4=2))) && (decide (v5=1))) && (decide (v6=4))) && (decide (v7=7)))=true)→(ra3=some ⟨b15,o8,none⟩))∧
 gd_i (((((((((((((((((((decide (r11=0)) && (decide (r12=0))) && r13) && (decide (r14=0))) && (decide (r15=0))) && (decide (r17=0))) && (decide (r18=0))) && (decide (r19=11))) && (decide (r20=0))) && (decide (r21=0))) && (decide (v1=1))) && (decide (v2=1))) && (decide (v3=3))) && eq) && (decide (v4=2))) && (decide (v5=1))) && (decide (v6=4))) && (decide (v7=7)))=true) H_34 b15 (o8+0*87+13+2+5) fun v8=>
 gd_i ((((((((((((((((((((decide (r11=0)) && (decide (r12=0))) && r13) && (decide (r14=0))) && (decide (r15=0))) && (decide (r17=0))) && (decide (r18=0))) && (decide (r19=11))) && (decide (r20=0))) && (decide (r21=0))) && (decide (v1=1))) && (decide (v2=1))) && (decide (v3=3))) && eq) && (decide (v4=2))) && (decide (v5=1))) && (decide (v6=4))) && (decide (v7=7))) && (decide (v8=1)))=true) H_34 b3 3 fun v9=>
 gd_i (((((((((((((((((((((decide (r11=0)) && (decide (r12=0))) && r13) && (decide (r14=0))) && (decide (r15=0))) && (decide (r17=0))) && (decide (r18=0))) && (decide (r19=11))) && (decide (r20=0))) && (decide (r21=0))) && (decide (v1=1))) && (decide (v2=1))) && (decide (v3=3))) && eq) && (decide (v4=2))) && (decide (v5=1))) && (decide (v6=4))) && (decide (v7=7))) && (decide (v8=1))) && (decide (v9=4)))=true) H_34 b3 7 fun v10=>
 gd_i ((((((((((((((((((((((decide (r11=0)) && (decide (r12=0))) && r13) && (decide (r14=0))) && (decide (r15=0))) && (decide (r17=0))) && (decide (r18=0))) && (decide (r19=11))) && (decide (r20=0))) && (decide (r21=0))) && (decide (v1=1))) && (decide (v2=1))) && (decide (v3=3))) && eq) && (decide (v4=2))) && (decide (v5=1))) && (decide (v6=4))) && (decide (v7=7))) && (decide (v8=1))) && (decide (v9=4))) && (decide (v10=5)))=true) H_34 b4 0 fun v11=>
 gd_i (((((((((((((((((((((((decide (r11=0)) && (decide (r12=0))) && r13) && (decide (r14=0))) && (decide (r15=0))) && (decide (r17=0))) && (decide (r18=0))) && (decide (r19=11))) && (decide (r20=0))) && (decide (r21=0))) && (decide (v1=1))) && (decide (v2=1))) && (decide (v3=3))) && eq) && (decide (v4=2))) && (decide (v5=1))) && (decide (v6=4))) && (decide (v7=7))) && (decide (v8=1))) && (decide (v9=4))) && (decide (v10=5))) && (decide (v11=4)))=true) H_34 b4 1 fun v12=>
 gd_l ((((((((((((((((((((((((decide (r11=0)) && (decide (r12=0))) && r13) && (decide (r14=0))) && (decide (r15=0))) && (decide (r17=0))) && (decide (r18=0))) && (decide (r19=11))) && (decide (r20=0))) && (decide (r21=0))) && (decide (v1=1))) && (decide (v2=1))) && (decide (v3=3))) && eq) && (decide (v4=2))) && (decide (v5=1))) && (decide (v6=4))) && (decide (v7=7))) && (decide (v8=1))) && (decide (v9=4))) && (decide (v10=5))) && (decide (v11=4))) && (decide (v12=8)))=true) H_34 b5 11 fun va vn vc=>
 z5f (((((((((((((((((((((((((decide (r11=0)) && (decide (r12=0))) && r13) && (decide (r14=0))) && (decide (r15=0))) && (decide (r17=0))) && (decide (r18=0))) && (decide (r19=11))) && (decide (r20=0))) && (decide (r21=0))) && (decide (v1=1))) && (decide (v2=1))) && (decide (v3=3))) && eq) && (decide (v4=2))) && (decide (v5=1))) && (decide (v6=4))) && (decide (v7=7))) && (decide (v8=1))) && (decide (v9=4))) && (decide (v10=5))) && (decide (v11=4))) && (decide (v12=8))) && (decide ((vn:Int)=1)))=true) H_34 b5 0 fun l8=>
 JF (((((((((((((((((((((((((decide (r11=0)) && (decide (r12=0))) && r13) && (decide (r14=0))) && (decide (r15=0))) && (decide (r17=0))) && (decide (r18=0))) && (decide (r19=11))) && (decide (r20=0))) && (decide (r21=0))) && (decide (v1=1))) && (decide (v2=1))) && (decide (v3=3))) && eq) && (decide (v4=2))) && (decide (v5=1))) && (decide (v6=4))) && (decide (v7=7))) && (decide (v8=1))) && (decide (v9=4))) && (decide (v10=5))) && (decide (v11=4))) && (decide (v12=8))) && (decide ((vn:Int)=1)))=true) (
 C_b 34 [.agg ⟨l8⟩] H_34 fun r22 H_36=>
 gd_i (r22=true) H_36 b6 0 fun v13=>
 JF ((r22 && (decide (v13=0)))=true) (
 C_l 27 [.pointer r16] H_36 fun ra9 rn9 rc9 H_37=>
 JF ((decide ((rn9:Int)=1))=true) (
 C_l 27 [.pointer r] H_37 fun ra10 rn10 rc10 H_38=>
 gQ_i ((decide ((rn10:Int)=0))=true) 28 [.pointer r] H_38 fun r23=>
 gQ_i (((decide ((rn10:Int)=0)) && (decide (r23=1)))=true) 35 [.pointer r] H_38 fun r24=>
 gQ_i ((((decide ((rn10:Int)=0)) && (decide (r23=1))) && (decide (r24=1)))=true) 24 [.pointer r] H_38 fun r25=>
 gQ_i (((((decide ((rn10:Int)=0)) && (decide (r23=1))) && (decide (r24=1))) && (decide (r25=200)))=true) 23 [.pointer r] H_38 fun r26=>
 gQ_i ((((((decide ((rn10:Int)=0)) && (decide (r23=1))) && (decide (r24=1))) && (decide (r25=200))) && (decide (r26=100)))=true) 35 [.pointer r16] H_38 fun r27=>
 JF (((((((decide ((rn10:Int)=0)) && (decide (r23=1))) && (decide (r24=1))) && (decide (r25=200))) && (decide (r26=100))) && (decide (r27=0)))=true) (
 qbz 30 [] H_38 fun l H_39=>
 C_b 13 [.agg ⟨l⟩] H_39 fun r28 H_40=>
 Jn r28 H_40) (
 Jn false H_38)) (
 gQ_i (false=true) 28 [.pointer r] H_37 fun r29=>
 gQ_i ((false && (decide (r29=1)))=true) 35 [.pointer r] H_37 fun r30=>
 gQ_i (((false && (decide (r29=1))) && (decide (r30=1)))=true) 24 [.pointer r] H_37 fun r31=>
 gQ_i ((((false && (decide (r29=1))) && (decide (r30=1))) && (decide (r31=200)))=true) 23 [.pointer r] H_37 fun r32=>
 gQ_i (((((false && (decide (r29=1))) && (decide (r30=1))) && (decide (r31=200))) && (decide (r32=100)))=true) 35 [.pointer r16] H_37 fun r33=>
 JF ((((((false && (decide (r29=1))) && (decide (r30=1))) && (decide (r31=200))) && (decide (r32=100))) && (decide (r33=0)))=true) (
 qbz 30 [] H_37 fun l1 H_41=>
 C_b 13 [.agg ⟨l1⟩] H_41 fun r34 H_42=>
 Jn r34 H_42) (
 Jn false H_37))) (
 JF (false=true) (
 C_l 27 [.pointer r] H_36 fun ra11 rn11 rc11 H_43=>
 gQ_i ((decide ((rn11:Int)=0))=true) 28 [.pointer r] H_43 fun r35=>
 gQ_i (((decide ((rn11:Int)=0)) && (decide (r35=1)))=true) 35 [.pointer r] H_43 fun r36=>
 gQ_i ((((decide ((rn11:Int)=0)) && (decide (r35=1))) && (decide (r36=1)))=true) 24 [.pointer r] H_43 fun r37=>
 gQ_i (((((decide ((rn11:Int)=0)) && (decide (r35=1))) && (decide (r36=1))) && (decide (r37=200)))=true) 23 [.pointer r] H_43 fun r38=>
 gQ_i ((((((decide ((rn11:Int)=0)) && (decide (r35=1))) && (decide (r36=1))) && (decide (r37=200))) && (decide (r38=100)))=true) 35 [.pointer r16] H_43 fun r39=>
 JF (((((((decide ((rn11:Int)=0)) && (decide (r35=1))) && (decide (r36=1))) && (decide (r37=200))) && (decide (r38=100))) && (decide (r39=0)))=true) (
 qbz 30 [] H_43 fun l2 H_44=>
 C_b 13 [.agg ⟨l2⟩] H_44 fun r40 H_45=>
 Jn r40 H_45) (
 Jn false H_43)) (
 gQ_i (false=true) 28 [.pointer r] H_36 fun r41=>
 gQ_i ((false && (decide (r41=1)))=true) 35 [.pointer r] H_36 fun r42=>
 gQ_i (((false && (decide (r41=1))) && (decide (r42=1)))=true) 24 [.pointer r] H_36 fun r43=>
 gQ_i ((((false && (decide (r41=1))) && (decide (r42=1))) && (decide (r43=200)))=true) 23 [.pointer r] H_36 fun r44=>
 gQ_i (((((false && (decide (r41=1))) && (decide (r42=1))) && (decide (r43=200))) && (decide (r44=100)))=true) 35 [.pointer r16] H_36 fun r45=>
 JF ((((((false && (decide (r41=1))) && (decide (r42=1))) && (decide (r43=200))) && (decide (r44=100))) && (decide (r45=0)))=true) (
 qbz 30 [] H_36 fun l3 H_46=>
 C_b 13 [.agg ⟨l3⟩] H_46 fun r46 H_47=>
 Jn r46 H_47) (
 Jn false H_36)))) (
 gd_i (false=true) H_34 b6 0 fun v14=>
 JF ((false && (decide (v14=0)))=true) (
 C_l 27 [.pointer r16] H_34 fun ra12 rn12 rc12 H_48=>
 JF ((decide ((rn12:Int)=1))=true) (
 C_l 27 [.pointer r] H_48 fun ra13 rn13 rc13 H_49=>
 gQ_i ((decide ((rn13:Int)=0))=true) 28 [.pointer r] H_49 fun r47=>
 gQ_i (((decide ((rn13:Int)=0)) && (decide (r47=1)))=true) 35 [.pointer r] H_49 fun r48=>
 gQ_i ((((decide ((rn13:Int)=0)) && (decide (r47=1))) && (decide (r48=1)))=true) 24 [.pointer r] H_49 fun r49=>
 gQ_i (((((decide ((rn13:Int)=0)) && (decide (r47=1))) && (decide (r48=1))) && (decide (r49=200)))=true) 23 [.pointer r] H_49 fun r50=>
 gQ_i ((((((decide ((rn13:Int)=0)) && (decide (r47=1))) && (decide (r48=1))) && (decide (r49=200))) && (decide (r50=100)))=true) 35 [.pointer r16] H_49 fun r51=>
 JF (((((((decide ((rn13:Int)=0)) && (decide (r47=1))) && (decide (r48=1))) && (decide (r49=200))) && (decide (r50=100))) && (decide (r51=0)))=true) (
 qbz 30 [] H_49 fun l4 H_50=>
 C_b 13 [.agg ⟨l4⟩] H_50 fun r52 H_51=>
 Jn r52 H_51) (
 Jn false H_49)) (
 gQ_i (false=true) 28 [.pointer r] H_48 fun r53=>
 gQ_i ((false && (decide (r53=1)))=true) 35 [.pointer r] H_48 fun r54=>
 gQ_i (((false && (decide (r53=1))) && (decide (r54=1)))=true) 24 [.pointer r] H_48 fun r55=>
 gQ_i ((((false && (decide (r53=1))) && (decide (r54=1))) && (decide (r55=200)))=true) 23 [.pointer r] H_48 fun r56=>
 gQ_i (((((false && (decide (r53=1))) && (decide (r54=1))) && (decide (r55=200))) && (decide (r56=100)))=true) 35 [.pointer r16] H_48 fun r57=>
 JF ((((((false && (decide (r53=1))) && (decide (r54=1))) && (decide (r55=200))) && (decide (r56=100))) && (decide (r57=0)))=true) (
 qbz 30 [] H_48 fun l5 H_52=>
 C_b 13 [.agg ⟨l5⟩] H_52 fun r58 H_53=>
 Jn r58 H_53) (
 Jn false H_48))) (
 JF (false=true) (
 C_l 27 [.pointer r] H_34 fun ra14 rn14 rc14 H_54=>
 gQ_i ((decide ((rn14:Int)=0))=true) 28 [.pointer r] H_54 fun r59=>
 gQ_i (((decide ((rn14:Int)=0)) && (decide (r59=1)))=true) 35 [.pointer r] H_54 fun r60=>
 gQ_i ((((decide ((rn14:Int)=0)) && (decide (r59=1))) && (decide (r60=1)))=true) 24 [.pointer r] H_54 fun r61=>
 gQ_i (((((decide ((rn14:Int)=0)) && (decide (r59=1))) && (decide (r60=1))) && (decide (r61=200)))=true) 23 [.pointer r] H_54 fun r62=>
 gQ_i ((((((decide ((rn14:Int)=0)) && (decide (r59=1))) && (decide (r60=1))) && (decide (r61=200))) && (decide (r62=100)))=true) 35 [.pointer r16] H_54 fun r63=>
 JF (((((((decide ((rn14:Int)=0)) && (decide (r59=1))) && (decide (r60=1))) && (decide (r61=200))) && (decide (r62=100))) && (decide (r63=0)))=true) (
 qbz 30 [] H_54 fun l6 H_55=>
 C_b 13 [.agg ⟨l6⟩] H_55 fun r64 H_56=>
 Jn r64 H_56) (
 Jn false H_54)) (
 gQ_i (false=true) 28 [.pointer r] H_34 fun r65=>
 gQ_i ((false && (decide (r65=1)))=true) 35 [.pointer r] H_34 fun r66=>
 gQ_i (((false && (decide (r65=1))) && (decide (r66=1)))=true) 24 [.pointer r] H_34 fun r67=>
 gQ_i ((((false && (decide (r65=1))) && (decide (r66=1))) && (decide (r67=200)))=true) 23 [.pointer r] H_34 fun r68=>
 gQ_i (((((false && (decide (r65=1))) && (decide (r66=1))) && (decide (r67=200))) && (decide (r68=100)))=true) 35 [.pointer r16] H_34 fun r69=>
 JF ((((((false && (decide (r65=1))) && (decide (r66=1))) && (decide (r67=200))) && (decide (r68=100))) && (decide (r69=0)))=true) (
 qbz 30 [] H_34 fun l7 H_57=>
 C_b 13 [.agg ⟨l7⟩] H_57 fun r70 H_58=>
 Jn r70 H_58) (
 Jn false H_34))))))):CF 9 ⟨[]⟩ H K:=cE h
theorem z1a (h :
 AL H (L_i9 a b c d e f g i j) 23 fun v g2=>
 AL g2 [.bool false] 4 fun o g3=>
 C_b 9 [] g3 fun g4 c0=>
 IF (!g4) (
 ST c0 o 0 [.bool false] fun d5=>
 rd_b d5 o 0 fun g5=>
 K (.bool g5) d5) (
 qca c0 v 0 fun g6=>
 C_b 10 (L_vl (.agg ⟨g6⟩) s l m) c0 fun r1 c1=>
 IF r1 (
 ST c1 o 0 [.bool true] fun d6=>
 rd_b d6 o 0 fun g7=>
 K (.bool g7) d6) (
 qca c1 v 0 fun g8=>
 C_p 19 (L_vl (.agg ⟨g8⟩) s l m) c1 fun r2 g9=>
 AL g9 [.pointer none] 27 fun u i0=>
 ST i0 u 0 [.pointer r2] fun b3=>
 rd_i b3 v 0 fun i1=>
 rd_i b3 v 1 fun i2=>
 rd_i b3 v 2 fun i3=>
 qis 20 (L_i3 i1 i2 i3) b3 fun i4 r3 i5=>
 AL i5 (L_i3 0 0 0) 70 fun c2 i6=>
 ST i6 c2 0 i4 fun b4=>
 rd_p b4 u 0 fun i7=>
 IF (i7.isNone || (!decide (r3=0))) (
 qca b4 v 0 fun i9=>
 C_b 13 [.agg ⟨i9⟩] b4 fun r4 k0=>
 ST k0 o 0 [.bool (!r4)] fun d7=>
 rd_b d7 o 0 fun k1=>
 K (.bool k1) d7) (
 AL b4 [I64 0] 3 fun b5 k2=>
 ST k2 b5 0 [I64 0] fun d8=>
 rd_p d8 u 0 fun k3=>
 C_f 21 [.pointer k3] d8 fun d9 k4 k=>
 memN d9 X.calls=true∧
 ∀r:Loop,r.state=.ready→r.pending=none→
 (∀(f9:List Value) (d2:Heap) (d3:Value→Heap→Prop),(∃e5 e6 e7 e8 e9 f0 f1 f2 f3 f4,f9=(L_v2 (A_is e5 e6) (q1t e7 e8 e9 f0 f1 f2 f3 f4))∧
 d2[k.size+1]?=some (.loop r)∧
 AL d2 (L_is 0 (⟨#[]⟩:ByteArray)) 55 fun a1 k5=>
 ST k5 a1 0 (L_is e5 e6) fun k6=>
 AL k6 q0a 62 fun t k7=>
 ST k7 t 0 (q0v e7 e8 e9 f0 f1 f2 f3 f4) fun e0=>
 e0[k.size+1]?=some (.loop r)∧
 ∀a7:Heap,a7=q0m e0 (k.size+1) { r with state:=.busy }→
 ∀b1:qdi,(∀f5 b8,(IF f5 (
 ST b8 o 0 [.bool false] fun e1=>
 e1[k.size+1]?=some (.loop { r with state:=.busy })∧d3 (.bool false) (q0m e1 (k.size+1) { r with state:=.done,pending:=some .ret })) (
 rd_i b8 b5 0 fun k8=>
 ST b8 b5 0 [I64 (i64.wrap (k8+1))] fun e2=>
 e2[k.size+1]?=some (.loop { r with state:=.busy })∧d3 (.bool true) (q0m e2 (k.size+1) r)))→b1 f5 b8)→
 rd_i a7 a1 0 fun x=>
 q0x a7 c2 0 fun k9=>
 rd_p a7 u 0 fun m0=>
 Q_i 23 [.pointer m0] a7 fun r5=>
 C_i 22 (L_vi (.agg ⟨k9⟩) r5) a7 fun r6 p=>
 q02 p a1 0=some (I64 x)∧
 gd_i ((decide (x < r6))=false) p a1 0 fun b6=>
 ∃f6 f7 f8,(((decide (x < r6))=false)→q03 p c2 0 (L_i3 f6 f7 f8))∧
 gd_p ((decide (x < r6))=false) p u 0 fun m1=>
 gQ_i ((decide (x < r6))=false) 24 [.pointer m1] p fun r7=>
 JF ((decide (x < r6))=false) (
 C_i 22 (L_vi (A_i3 f6 f7 f8) r7) p fun e3 a2=>
 (((decide (x < r6))=false)→q02 a2 a1 0=some (I64 b6))∧
 qa6 ((decide (e3 < b6))=false) a2 t 0 fun m2=>
 JF ((decide (e3 < b6))=false) (
 C_b 25 [.agg ⟨m2⟩] a2 fun c3 c4=>
 gd_i ((!c3)=false) c4 t 5 fun m3=>
 gd_i ((!c3)=false) c4 t 6 fun m4=>
 b1 ((!c3) || (decide ((i64.wrap (m3+m4)) < 1))) c4) (
 gd_i (true=false) a2 t 5 fun m5=>
 gd_i (true=false) a2 t 6 fun m6=>
 b1 (true || (decide ((i64.wrap (m5+m6)) < 1))) a2)) (
 (((decide (x < r6))=false)→q02 p a1 0=some (I64 b6))∧
 qa6 (true=false) p t 0 fun m7=>
 JF (true=false) (
 C_b 25 [.agg ⟨m7⟩] p fun c5 c6=>
 gd_i ((!c5)=false) c6 t 5 fun m8=>
 gd_i ((!c5)=false) c6 t 6 fun m9=>
 b1 ((!c5) || (decide ((i64.wrap (m8+m9)) < 1))) c6) (
 gd_i (true=false) p t 5 fun n0=>
 gd_i (true=false) p t 6 fun n1=>
 b1 (true || (decide ((i64.wrap (n0+n1)) < 1))) p)))→q44 Tryz.prog (k.size+1) f9 d2 d3)→
 CF d9 ⟨(.func (.yield (k.size+1)) #[] #[])::k4⟩ ((k.push (.deferred (some []))).push (.loop r)) fun o8 e4=>∃(g0:LoopState) (b9:Option Code),g0≠.busy∧e4[k.size+1]?=some (.loop { r with state:=g0,pending:=b9 })∧
 ∀b2:Heap,b2=q0m e4 (k.size+1) { r with state:=.exhausted,pending:=b9 }→
 ((b9=none∧
 ∃(d4:q98) (g1:qg7),d4 0 0 b2∧
 ∀w a6 q,d4 w a6 q→
 ID (a6 < 64) (
 ∀d1:q1l,(∀c9 d0,(d4 c9 (i64.wrap (a6+1)) d0∧g1 c9 (i64.wrap (a6+1)) d0 < g1 w a6 q)→d1 c9 d0)→
 rd_p q u 0 fun n2=>
 qdl 26 (L_pi n2 a6) q fun n3 n4 n5=>
 AL n5 qdk 82 fun a3 n6=>
 ST n6 a3 0 n3 fun n=>
 IF (!n4) (
 d1 w n) (
 rd_i n a3 3 fun y=>
 rd_p n u 0 fun n7=>
 Q_i 24 [.pointer n7] n fun z=>
 gd_i ((decide (z < y))=false) n a3 10 fun a0=>
 gd_i (((decide (z < y)) || (decide (8 < a0)))=false) n a3 9 fun a8=>
 gd_i (((decide (z < y)) || (decide (8 < a0)))=false) n v 8 fun a9=>
 gd_i ((((decide (z < y)) || (decide (8 < a0))) || (decide (a9≤a8)))=false) n a3 0 fun b7=>
 gd_i (((((decide (z < y)) || (decide (8 < a0))) || (decide (a9≤a8))) || (decide (b7 < 1)))=false) n a3 2 fun n8=>
 gd_p (((((decide (z < y)) || (decide (8 < a0))) || (decide (a9≤a8))) || (decide (b7 < 1)))=false) n u 0 fun n9=>
 gQ_i (((((decide (z < y)) || (decide (8 < a0))) || (decide (a9≤a8))) || (decide (b7 < 1)))=false) 24 [.pointer n9] n fun o0=>
 IF (((((decide (z < y)) || (decide (8 < a0))) || (decide (a9≤a8))) || (decide (b7 < 1))) || (decide (o0 < n8))) (
 ST n o 0 [.bool false] fun c7=>
 c7[k.size]?=some (.deferred (some []))∧
 rd_b (c7.setIfInBounds k.size (.deferred none)) o 0 fun o1=>
 K (.bool o1) (c7.setIfInBounds k.size (.deferred none))) (
 d1 (i64.wrap (w+1)) n))) (
 rd_i q b5 0 fun a4=>
 rd_i q v 7 fun a5=>
 gd_i ((decide (a4≤a5))=true) q v 6 fun b0=>
 gd_p (((decide (a4≤a5)) && (decide (w≤b0)))=true) q u 0 fun o2=>
 gQ_i (((decide (a4≤a5)) && (decide (w≤b0)))=true) 23 [.pointer o2] q fun o3=>
 gd_p (((decide (a4≤a5)) && (decide (w≤b0)))=true) q u 0 fun o4=>
 gQ_i (((decide (a4≤a5)) && (decide (w≤b0)))=true) 24 [.pointer o4] q fun o5=>
 ST q o 0 [.bool (((decide (a4≤a5)) && (decide (w≤b0))) && (decide (o3≤o5)))] fun c8=>
 c8[k.size]?=some (.deferred (some []))∧
 rd_b (c8.setIfInBounds k.size (.deferred none)) o 0 fun o6=>
 K (.bool o6) (c8.setIfInBounds k.size (.deferred none))))∨
 b9=(some .ret)∧
 b2[k.size]?=some (.deferred (some []))∧
 rd_b (b2.setIfInBounds k.size (.deferred none)) o 0 fun o7=>
 K (.bool o7) (b2.setIfInBounds k.size (.deferred none))))))):CF 5 ⟨(L_vl (A_i9 a b c d e f g i j) s l m)⟩ H K:=cE h
end
end Go.Proofs.YtfmkddccnjidmaaGreatDoor
namespace Go.Nm
def zabs (v:Int):Nat:=v.natAbs
def addS (a b:Int):Int × Int:=if wf64 (a+b) then (a+b,0) else (0,12)
def signS (n:Nat)(neg:Bool):Int × Int:=
 if neg then (if 9223372036854775808 < n then (0,12) else (-(n:Int),0)) else (if 9223372036854775807 < n then (0,12) else ((n:Int),0))
def qgb (a b c:Int)(up:Bool):Int × Int:=
 if c < 1 then (0,11) else
 if c.toNat≤zabs a*zabs b / 18446744073709551616 then (0,12) else
 let q:=zabs a*zabs b / c.toNat
 if 9223372036854775808 < q then (0,12) else
 let neg:=!(decide (a < 0) == decide (b < 0))
 signS (if !decide (zabs a*zabs b % c.toNat=0) && !(neg == up) then q+1 else q) neg
abbrev q35 (rho:Int):Prop:=0≤rho∧rho≤100000
def lowS (x rho:Int):Int × Int:=
 if x < -4611686018427387904∨4611686018427387904 < x∨¬q35 rho then (0,11) else
 if 0 < x then (if 1 < (qgb (x - 1) 1000000 (1000000+rho) true).1 then (qgb (x - 1) 1000000 (1000000+rho) true).1 else 1,(qgb (x - 1) 1000000 (1000000+rho) true).2)
 else (i64.wrap (0 - (qgb (1 - x) 1000000 (1000000 - rho) false).1),(qgb (1 - x) 1000000 (1000000 - rho) false).2)
def qrv (x rho:Int):Int × Int:=
 if x < -4611686018427387904∨4611686018427387904 < x then (0,11) else (i64.wrap (0 - (lowS (-x) rho).1),(lowS (-x) rho).2)
theorem highS_wf (x rho:Int):wf64 (qrv x rho).1:=by
 unfold qrv
 split
 ·simp [wf64]
 ·exact qud _
structure Gp where
 lo:Int
 hi:Int
deriving DecidableEq
def Gp.z:Gp:=⟨0,0⟩
abbrev encG (g:Gp):List Value:=[.int .i64 g.lo,.int .i64 g.hi]
abbrev aggG (g:Gp):Value:=.agg #[.int .i64 g.lo,.int .i64 g.hi]
abbrev Gp.ok (g:Gp):Prop:=g.lo≤g.hi
def meet2 (a b:Gp):Gp:=⟨if b.lo > a.lo then b.lo else a.lo,if b.hi < a.hi then b.hi else a.hi⟩
def qj2:Gp→List Gp→Gp × Int
 | s,[]=>if s.ok then (s,0) else (Gp.z,13)
 | s,g::r=>if g.ok then qj2 (meet2 s g) r else (Gp.z,10)
def qfg (l:List Gp):Gp × Int:=qj2 ⟨-9223372036854775808,9223372036854775807⟩ l
theorem qha (g:Gp):(encG g).length=2:=rfl
def qxt (g:Gp):Int:=if g.ok then u64.wrap ((u64.wrap g.hi) - (u64.wrap g.lo)) else 0
def midS (g:Gp):Int:=if g.ok then i64.wrap ((q0i .and .i64 g.lo g.hi)+(Int.fdiv (q0i .xor .i64 g.lo g.hi) (2 ^ (min (Int.toNat 1) (i64.bits))))) else 0
end Go.Nm
namespace Go.Proofs.YtfmkddccnjidmaaGreatDoor
open Go.Nm
section
variable {F L:List Assn} {H:Heap} {K:Value→Heap→Prop}
theorem qxu {a b:Int}(ha:wf64 a)(hb:wf64 b):q1p Tryz.prog 187 #[I64 a,I64 b] H (.tuple #[I64 (addS a b).1,I64 (addS a b).2]):=by
 refine z0k ?_;unfold ID;rw [add_over ha hb];unfold addS;refine⟨fun hc=>?_,fun hc=>?_⟩
 ·have:¬wf64 (a+b):=by simpa using hc
  rw [if_neg this];exact⟨rfl,rfl⟩
 ·have:wf64 (a+b):=by simpa using hc
  rw [if_pos this];have e:i64.wrap (a+b)=a+b:=w64 (by unfold wf64 at this; omega) (by unfold wf64 at this; omega);rw [e];exact⟨rfl,rfl⟩
theorem qrw {v:Int}(h:wf64 v):q1p Tryz.prog 256 #[I64 v] H (.int .u64 (zabs v:Nat)):=by
 refine quu ?_;unfold zabs;unfold wf64 at h;refine⟨fun hc=>⟨?_,rfl⟩,fun hc=>⟨?_,rfl⟩⟩
 ·simp only [z8s] at hc;rw [u64e,u64e];congr 1;omega
 ·simp only [z8v] at hc;rw [u64e];congr 1;omega
theorem qj3 {n:Nat}{neg:Bool}(h:n < 18446744073709551616):q1p Tryz.prog 258 #[.int .u64 (n:Nat),.bool neg] H (.tuple #[I64 (signS n neg).1,I64 (signS n neg).2]):=by
 refine qnw ?_;unfold signS
 cases neg
 ·refine⟨fun hf=>by simp at hf,fun _=>⟨fun hc=>?_,fun hc=>?_⟩⟩
  ·have:9223372036854775807 < n:=by simp only [z8s] at hc; omega
   rw [if_neg Bool.false_ne_true,if_pos this];exact⟨rfl,rfl⟩
  ·have:¬9223372036854775807 < n:=by simp only [z8v] at hc; omega
   rw [if_neg Bool.false_ne_true,if_neg this,w64];exact⟨rfl,rfl⟩
 ·refine⟨fun _=>⟨fun hc=>?_,fun hc=>?_⟩,fun hf=>by simp at hf⟩
  ·have:9223372036854775808 < n:=by simp only [z8s] at hc; omega
   rw [if_pos rfl,if_pos this];exact⟨rfl,rfl⟩
  ·have:¬9223372036854775808 < n:=by simp only [z8v] at hc; omega
   rw [if_pos rfl,if_neg this];have e:i64.wrap (u64.wrap (0 - (n:Int)))=-(n:Int):=by rw [u64e,i64e]; omega
   rw [e];exact⟨rfl,rfl⟩
theorem z1b {x y:Nat}(hx:x < 18446744073709551616)(hy:y < 18446744073709551616) :
  q1p Tryz.prog 255 #[.int .u64 (x:Nat),.int .u64 (y:Nat)] H (.tuple #[.int .u64 ((x*y / 18446744073709551616:Nat):Int),.int .u64 ((x*y % 18446744073709551616:Nat):Int)]):=by
 refine qr7 ?_;refine⟨by decide,by decide,by decide,by decide,by decide,?_⟩;have hm:=mul64_arith (x:Int) (y:Int) (by omega) (by omega) (by omega) (by omega);have key:∀a:Nat,u64.wrap (a:Int)=((a % 18446744073709551616:Nat):Int):=u64m;have km:∀a:Nat,q0i .and .u64 ((a % 18446744073709551616:Nat):Int) 4294967295=((a % 18446744073709551616 % 4294967296:Nat):Int):=fun a=>qqf (za4 _ (by decide))
 rw [qqf hx,qqf hy];simp only [qxj,mulNN,addNN,key,km,and_true];show Value.tuple #[.int .u64 _,.int .u64 _]=_;congr 4
theorem qtu {s:ByteArray}{i:Nat}(h:i < s.size):bAt s i=((s[i]'h).toNat:Int):=by
 unfold bAt;rw [Array.getElem?_eq_getElem (show i < s.data.size from h)];rfl
theorem qve {n:Nat}(h:n < 18446744073709551616):bitLen n≤64:=by
 unfold bitLen
 split
 ·omega
 ·rename_i h0;have:=(Nat.log2_lt h0).2 (show n < 2 ^ 64 from h);omega
theorem qlo {x:Nat}(h:x < 18446744073709551616):q1p Tryz.prog 152 #[.int .u64 (x:Nat)] H (I64 (bitLen x:Nat)):=by
 refine qrd ?_;have last:∀(y:Nat) (n:Nat),y < 256→bitLen x=n+bitLen y→n≤64→q2m.r1 (fun u H'=>u=I64 (bitLen x:Nat)∧H'=H) (y:Int) (n:Int) H:=by
  intro y n hy hb hn;unfold q2m.r1;have ey:u8.wrap (y:Int)=(y:Int):=u8w (by omega) (by omega);have hl:=bitLen_le8 y hy;rw [ey];refine⟨⟨by omega,?_⟩,?_,rfl⟩
  ·show (y:Int) < 256;omega
  ·rw [show bAt _ ((y:Int)).toNat=((bitLen y:Nat):Int) from (qtu (i:=y) (by show y < 256; omega)).trans (congrArg Nat.cast (len8tab_get y (by show y < 256; omega)))];rw [w64 (x:=((bitLen y:Nat):Int)),w64,hb];congr 1
 have s2:∀(y:Nat) (n:Nat),y < 65536→bitLen x=n+bitLen y→n≤56→q2m.r2 (fun u H'=>u=I64 (bitLen x:Nat)∧H'=H) (y:Int) (n:Int) H:=by
  intro y n hy hb hn;unfold q2m.r2;refine fun Jn hJ=>⟨fun hc=>⟨by decide,?_⟩,fun hc=>hJ _ _ _ (last y n (by simp only [z8v] at hc; omega) hb (by omega))⟩
  simp only [z8s] at hc;have e:Int.fdiv (y:Int) (2 ^ (min (Int.toNat 8) (u64.bits)))=((y / 256:Nat):Int):=z01 y 8;have ew:i64.wrap ((n:Int)+8)=((n+8:Nat):Int):=by rw [w64]; omega
  rw [e,ew];refine hJ _ _ _ (last (y / 256) (n+8) (by omega) ?_ (by omega));have:=bitLen_shift y 8 (by simp only [Nat.reducePow]; omega);rw [hb,this];simp only [Nat.reducePow]; omega
 have s3:∀(y:Nat) (n:Nat),y < 4294967296→bitLen x=n+bitLen y→n≤32→q2m.r3 (fun u H'=>u=I64 (bitLen x:Nat)∧H'=H) (y:Int) (n:Int) H:=by
  intro y n hy hb hn;unfold q2m.r3;refine fun Jn hJ=>⟨fun hc=>⟨by decide,?_⟩,fun hc=>hJ _ _ _ (s2 y n (by simp only [z8v] at hc; omega) hb (by omega))⟩
  simp only [z8s] at hc;have e:Int.fdiv (y:Int) (2 ^ (min (Int.toNat 16) (u64.bits)))=((y / 65536:Nat):Int):=z01 y 16;have ew:i64.wrap ((n:Int)+16)=((n+16:Nat):Int):=by rw [w64]; omega
  rw [e,ew];refine hJ _ _ _ (s2 (y / 65536) (n+16) (by omega) ?_ (by omega));have:=bitLen_shift y 16 (by simp only [Nat.reducePow]; omega);rw [hb,this];simp only [Nat.reducePow]; omega
 refine fun Jn hJ=>⟨fun hc=>⟨by decide,?_⟩,fun hc=>hJ _ _ _ (s3 x 0 (by simp only [z8v] at hc; omega) (by omega) (by omega))⟩
 simp only [z8s] at hc;rw [qxj];refine hJ _ _ _ (s3 (x / 4294967296) 32 (by omega) ?_ (by omega));have:=bitLen_shift x 32 (by simp only [Nat.reducePow]; omega);rw [this]
theorem z1c {x:Nat}(h:x < 18446744073709551616):q1p Tryz.prog 279 #[.int .u64 (x:Nat)] H (I64 ((64 - bitLen x:Nat):Int)):=by
 refine qa9 ?_;have hl:=qve h;refine⟨_,qlo h,?_,rfl⟩;rw [w64];congr 1;omega
end
end Go.Proofs.YtfmkddccnjidmaaGreatDoor
namespace Go.Nm
theorem tdivN (a b:Nat):Int.tdiv (a:Int) (b:Int)=((a / b:Nat):Int):=rfl
theorem tmodN (a b:Nat):Int.tmod (a:Int) (b:Int)=((a % b:Nat):Int):=rfl
theorem w_un {u u1 Q Y:Nat}(h:Q=(u*4294967296+u1) / Y)(hY:0 < Y)(hY2:Y < 18446744073709551616) :
  u64.wrap ((u64.wrap ((u64.wrap ((u:Int)*4294967296))+(u1:Int))) - (u64.wrap ((Q:Int)*(Y:Int))))=(((u*4294967296+u1) % Y:Nat):Int):=by
 have h1:=zb3 (u*4294967296+u1) Y;have h2:=za4 (u*4294967296+u1) hY;rw [← h] at h1;rw [mulNN];generalize Q*Y=p at *;generalize (u*4294967296+u1) % Y=m at *;rw [u64e,u64e,u64e,u64e];omega
theorem norm_y {y:Nat}(h0:0 < y)(h:y < 18446744073709551616):64 - bitLen y < 64∧y*2 ^ (64 - bitLen y) < 18446744073709551616∧9223372036854775808≤y*2 ^ (64 - bitLen y):=by
 obtain⟨h1,h2⟩:=bitLen_spec y;have h2:=h2 (by omega);have hl:bitLen y≤64:=by
  unfold bitLen
  split
  ·omega
  ·rename_i h0;have:=(Nat.log2_lt h0).2 (show y < 2 ^ 64 from h);omega
 have hp:0 < bitLen y:=by unfold bitLen; rw [if_neg (by omega)]; omega
 refine⟨by omega,?_,?_⟩
 ·calc y*2 ^ (64 - bitLen y) < 2 ^ bitLen y*2 ^ (64 - bitLen y):=(Nat.mul_lt_mul_right (zak _)).2 h1
   _=18446744073709551616:=by rw [← z9z,show bitLen y+(64 - bitLen y)=64 by omega]
 ·calc 9223372036854775808=2 ^ (bitLen y - 1)*2 ^ (64 - bitLen y):=by rw [← z9z,show bitLen y - 1+(64 - bitLen y)=63 by omega]
   _≤y*2 ^ (64 - bitLen y):=z9w _ h2
theorem norm_u {hi lo y s:Nat}(hs:s < 64)(hy:hi < y)(hl:lo < 18446744073709551616)(h:y*2 ^ s < 18446744073709551616) :
  hi*2 ^ s+lo / 2 ^ (64 - s) < y*2 ^ s∧q0i .or .u64 (u64.wrap ((hi:Int)*2 ^ s)) (Int.fdiv (lo:Int) (2 ^ (64 - s)))=((hi*2 ^ s+lo / 2 ^ (64 - s):Nat):Int):=by
 have h1:lo / 2 ^ (64 - s) < 2 ^ s:=by
  rw [zap (zak _),← z9z,show s+(64 - s)=64 by omega];exact hl
 have h2:hi*2 ^ s+2 ^ s≤y*2 ^ s:=by
  rw [← Nat.succ_mul];exact z9w _ hy
 refine⟨by omega,?_⟩;have e1:(hi:Int)*2 ^ s=((hi*2 ^ s:Nat):Int):=by rw [zb2]; simp
 have h3:hi*2 ^ s < 18446744073709551616:=Nat.lt_of_lt_of_le (Nat.lt_add_of_pos_right (zak s)) (z93 h2 (Nat.le_of_lt h));rw [e1,z01,u64n h3,or64 h3 (Nat.lt_of_le_of_lt (Nat.div_le_self _ _) hl)];congr 1;rw [Nat.mul_comm hi,← Nat.two_pow_add_eq_or_of_lt h1]
end Go.Nm
namespace Go.Proofs.YtfmkddccnjidmaaGreatDoor
open Go.Nm
section
variable {F L:List Assn} {H:Heap} {K:Value→Heap→Prop}
set_option maxHeartbeats 2000000 in
theorem div_core {hi lo y s Y u v:Nat}(hs:s < 64)(hn1:Y < 18446744073709551616)(hn2:9223372036854775808≤Y)(hu:u < Y)(hun:v < 18446744073709551616)(hi0:hi≠0)
  (ey:u64.wrap ((y:Int)*2 ^ s)=(Y:Int)) (elo:u64.wrap ((lo:Int)*2 ^ s)=(v:Int))
  (eu:q0i .or .u64 (u64.wrap ((hi:Int)*2 ^ s)) (Int.fdiv (lo:Int) (2 ^ (64 - s)))=(u:Int))
  (hz:q1p Tryz.prog 279 #[.int .u64 (y:Nat)] H (I64 (s:Nat)))
  (k:K (.tuple #[.int .u64 (((u*18446744073709551616+v) / Y:Nat):Int),.int .u64 ((((u*18446744073709551616+v) % Y) / 2 ^ s:Nat):Int)]) H) :
  q28.r5 (hi:Int) (lo:Int) (y:Int) K H:=by
  unfold q28.r5;refine⟨fun hc=>?_,fun hc=>?_⟩
  ·exfalso; simp only [z8s] at hc; omega
  refine⟨_,hz,?_⟩;have es:u64.wrap (s:Int)=(s:Int):=u64n (by omega);have em:min (Int.toNat (s:Int)) u64.bits=s:=by rw [z8x]; exact zao (by simp only [IntKind.bits]; omega)
  have e64s:u64.wrap (64 - (s:Int))=((64 - s:Nat):Int):=by rw [u64e]; omega
  have em2:min (Int.toNat ((64 - s:Nat):Int)) u64.bits=64 - s:=by rw [z8x]; exact zao (by simp only [IntKind.bits]; omega)
  obtain⟨u1,hu1⟩:∃u1,v / 4294967296=u1:=⟨_,rfl⟩;obtain⟨u0,hu0⟩:∃u0,v % 4294967296=u0:=⟨_,rfl⟩;obtain⟨y1,hy1⟩:∃y1,Y / 4294967296=y1:=⟨_,rfl⟩;obtain⟨y0,hy0⟩:∃y0,Y % 4294967296=y0:=⟨_,rfl⟩;have eY:y1*4294967296+y0=Y:=by omega
  have ev:u1*4294967296+u0=v:=by have ev:=zb3 v 4294967296; rw [hu1,hu0] at ev; exact ev
  have b1:2147483648≤y1:=by omega
  have b1':y1 < 4294967296:=by omega
  have b0:y0 < 4294967296:=by omega
  have c1:u1 < 4294967296:=by omega
  have c0:u0 < 4294967296:=by omega
  have hj:=kn_join (u:=u) (u1:=u1) (u0:=u0) (y:=Y) (by omega);have e0:u*18446744073709551616+v=(u*4294967296+u1)*4294967296+u0:=by rw [← ev,z9l,Nat.mul_assoc,z9y]
  rw [e0,hj.1] at k;rw [hj.2] at k;have fy:Int.fdiv (Y:Int) (2 ^ (min (Int.toNat 32) (u64.bits)))=(y1:Int):=by rw [qxj,hy1]
  have fv:Int.fdiv (v:Int) (2 ^ (min (Int.toNat 32) (u64.bits)))=(u1:Int):=by rw [qxj,hu1]
  have my:q0i .and .u64 (Y:Int) 4294967295=(y0:Int):=by rw [qqf (by omega),hy0]
  have mv:q0i .and .u64 (v:Int) 4294967295=(u0:Int):=by rw [qqf (by omega),hu0]
  have cond:∀q r w1:Nat,r < 4294967296→w1 < 4294967296→((decide (4294967296≤(q:Int)) || decide (u64.wrap ((u64.wrap (4294967296*(r:Int)))+(w1:Int)) < u64.wrap ((q:Int)*(y0:Int))))=true↔(4294967296≤q∨4294967296*r+w1 < q*y0)):=by
   intro q r w1 hr hw;have ea:u64.wrap ((u64.wrap (4294967296*(r:Int)))+(w1:Int))=((4294967296*r+w1:Nat):Int):=by rw [u64e,u64e]; omega
   rw [ea,mulNN,u64m];simp only [z94,z8s]
   by_cases hB:4294967296≤q
   ·constructor
    ·intro _; exact .inl hB
    ·intro _; exact .inl (by omega)
   ·have:q*y0≤4294967296*4294967295:=Nat.mul_le_mul (by omega) (by omega);rw [zah (by omega)]
    constructor
    ·rintro (h|h)
     ·omega
     ·exact .inr (by omega)
    ·rintro (h|h)
     ·omega
     ·exact .inr (by omega)
  have eup:∀q r:Nat,1≤q→r < 4294967296→q≤4294967297→u64.wrap ((q:Int) - 1)=((q - 1:Nat):Int)∧u64.wrap ((r:Int)+(y1:Int))=((r+y1:Nat):Int):=by
   intro q r h1 h2 h3;exact⟨by rw [u64e]; omega,by rw [u64e]; omega⟩
  have ini:∀U:Nat,U < Y→u64.wrap ((U / y1:Nat):Int)=((U / y1:Nat):Int)∧u64.wrap ((U:Int) - u64.wrap (((U / y1:Nat):Int)*(y1:Int)))=((U % y1:Nat):Int)∧U % y1 < 4294967296:=by
   intro U hU;have h1:=zb3 U y1;have h2:=Nat.div_le_self U y1;have h3:=za4 U (show 0 < y1 by omega);refine⟨u64n (by omega),?_,by omega⟩;rw [mulNN];generalize U / y1*y1=p at *;rw [u64e,u64e];omega
  obtain⟨Q1,hQ1⟩:∃Q1,(u*4294967296+u1) / Y=Q1:=⟨_,rfl⟩;obtain⟨R1,hR1⟩:∃R1,(u*4294967296+u1) % Y=R1:=⟨_,rfl⟩;have hR1Y:R1 < Y:=by rw [← hR1]; exact za4 _ (by omega)
  have w1:=w_un (u:=u) (u1:=u1) (Q:=Q1) (Y:=Y) hQ1.symm (by omega) (by omega);rw [hR1] at w1;obtain⟨Q0,hQ0⟩:∃Q0,(R1*4294967296+u0) / Y=Q0:=⟨_,rfl⟩;have w0:=w_un (u:=R1) (u1:=u0) (Q:=Q0) (Y:=Y) hQ0.symm (by omega) (by omega);have q1lt:Q1 < 4294967296:=by rw [← hQ1]; exact kn_lt hu c1
  have q0lt:Q0 < 4294967296:=by rw [← hQ0]; exact kn_lt hR1Y c0
  rw [hQ1,hR1,hQ0] at k;have last:q28.r1 (hi:Int) lo y K (s:Int) (Q1:Int) (Q0:Int) H:=by
   unfold q28.r1;simp only [es,em,e64s,em2,ey,elo,eu,fy,fv,my,mv,w1,w0];refine⟨by omega,?_⟩;have ea:u64.wrap ((u64.wrap ((Q1:Int)*4294967296))+(Q0:Int))=((Q1*4294967296+Q0:Nat):Int):=by rw [u64e,u64e]; omega
   rw [ea,z01];exact k
  have mid:q28.r3 (hi:Int) lo y K (s:Int) (Q1:Int) H:=by
   unfold q28.r3;simp only [es,em,e64s,em2,ey,elo,eu,fy,fv,my,mv,w1,tdivN];obtain⟨i1,i2,i3⟩:=ini R1 hR1Y;obtain⟨n1,n2,n3,n4⟩:=z51 (y0:=y0) (u:=R1) (u1:=u0) b1 b0 (by omega) c0;rw [eY,hQ0] at n3;refine⟨by omega,fun Jn3 hJ3=>⟨fun rhat q0 H'=>H'=H∧∃q r:Nat,q0=q∧rhat=r∧q*y1+r=R1∧r < 4294967296∧Q0≤q∧q≤4294967297,fun rhat _ _=>4294967296 - rhat.toNat,?_,?_⟩⟩
   ·rw [i1,i2];exact⟨rfl,_,_,rfl,rfl,n1,i3,n3,n4⟩
   rintro rhat q0 H' ⟨rfl,q,r,rfl,rfl,hq,hr,hle,hq2⟩;simp only [es,em,e64s,em2,ey,elo,eu,fy,fv,my,mv];refine⟨fun hc=>?_,fun hc=>?_⟩
   ·have hc:=(cond q r u0 hr c0).1 hc;have hd:=kn_dec (y0:=y0) (u:=R1) (u1:=u0) b1 (by omega) c0 hq hc;rw [eY,hQ0] at hd;obtain⟨p,rfl⟩:∃p,q=p+1:=⟨q - 1,by omega⟩;have hq':p*y1+(r+y1)=R1:=by rw [Nat.succ_mul] at hq; omega
    obtain⟨e1,e2⟩:=eup (p+1) r (by omega) hr hq2;rw [Nat.add_sub_cancel] at e1 hd;rw [e1,e2];refine⟨fun hc2=>?_,fun hc2=>⟨⟨trivial,_,_,rfl,rfl,hq',?_,hd.2,by omega⟩,?_⟩⟩
    ·simp only [z8s] at hc2;have hx:=qxo (y0:=y0) (u:=R1) (u1:=u0) b1 b0 hq' (by rw [eY,hQ0]; exact hd.2) (by omega) (by omega);rw [eY,hQ0] at hx;rw [hx];exact hJ3 _ _ last
    ·simp only [z8v] at hc2; omega
    ·simp only [z8x]; omega
   ·have hc:¬(4294967296≤q∨4294967296*r+u0 < q*y0):=fun hh=>by rw [(cond q r u0 hr c0).2 hh] at hc; cases hc
    have hx:=qxn (y0:=y0) (u:=R1) (u1:=u0) b1 hq (by rw [eY,hQ0]; exact hle) (by omega);rw [eY,hQ0] at hx;rw [hx];exact hJ3 _ _ last
  simp only [es,em,e64s,em2,ey,elo,eu,fy,fv,my,mv,tdivN];obtain⟨i1,i2,i3⟩:=ini u hu;obtain⟨n1,n2,n3,n4⟩:=z51 (y0:=y0) (u:=u) (u1:=u1) b1 b0 (by omega) c1;rw [eY,hQ1] at n3;refine⟨by omega,by decide,by omega,by omega,by omega,by decide,by omega,fun Jn2 hJ2=>⟨fun q1 rhat H'=>H'=H∧∃q r:Nat,q1=q∧rhat=r∧q*y1+r=u∧r < 4294967296∧Q1≤q∧q≤4294967297,fun _ rhat _=>4294967296 - rhat.toNat,?_,?_⟩⟩
  ·rw [i1,i2];exact⟨rfl,_,_,rfl,rfl,n1,i3,n3,n4⟩
  rintro q1 rhat H' ⟨rfl,q,r,rfl,rfl,hq,hr,hle,hq2⟩;simp only [es,em,e64s,em2,ey,elo,eu,fy,fv,my,mv];refine⟨fun hc=>?_,fun hc=>?_⟩
  ·have hc:=(cond q r u1 hr c1).1 hc;have hd:=kn_dec (y0:=y0) (u:=u) (u1:=u1) b1 (by omega) c1 hq hc;rw [eY,hQ1] at hd;obtain⟨p,rfl⟩:∃p,q=p+1:=⟨q - 1,by omega⟩;have hq':p*y1+(r+y1)=u:=by rw [Nat.succ_mul] at hq; omega
   obtain⟨e1,e2⟩:=eup (p+1) r (by omega) hr hq2;rw [Nat.add_sub_cancel] at e1 hd;rw [e1,e2];refine⟨fun hc2=>?_,fun hc2=>⟨⟨trivial,_,_,rfl,rfl,hq',?_,hd.2,by omega⟩,?_⟩⟩
   ·simp only [z8s] at hc2;have hx:=qxo (y0:=y0) (u:=u) (u1:=u1) b1 b0 hq' (by rw [eY,hQ1]; exact hd.2) (by omega) (by omega);rw [eY,hQ1] at hx;rw [hx];exact hJ2 _ _ mid
   ·simp only [z8v] at hc2; omega
   ·simp only [z8x]; omega
  ·have hc:¬(4294967296≤q∨4294967296*r+u1 < q*y0):=fun hh=>by rw [(cond q r u1 hr c1).2 hh] at hc; cases hc
   have hx:=qxn (y0:=y0) (u:=u) (u1:=u1) b1 hq (by rw [eY,hQ1]; exact hle) (by omega);rw [eY,hQ1] at hx;rw [hx];exact hJ2 _ _ mid
theorem z1d {hi lo y:Nat}(hy:hi < y)(hl:lo < 18446744073709551616)(hy64:y < 18446744073709551616)
  (k:K (.tuple #[.int .u64 (((hi*18446744073709551616+lo) / y:Nat):Int),.int .u64 (((hi*18446744073709551616+lo) % y:Nat):Int)]) H) :
  CF 257 #[.int .u64 (hi:Nat),.int .u64 (lo:Nat),.int .u64 (y:Nat)] H K:=by
 refine qr6 ?_;refine fun Jn hJ=>⟨fun hc=>?_,fun _=>hJ _ ?_⟩
 ·exfalso; simp only [z8s] at hc; omega
 refine fun Jn1 hJ1=>⟨fun hc=>?_,fun _=>hJ1 _ ?_⟩
 ·exfalso; simp only [z8s] at hc; omega
 by_cases h0:hi=0
 ·subst h0;unfold q28.r5;refine⟨fun _=>⟨by omega,by omega,?_⟩,fun hc=>?_⟩
  ·rw [tdivN,tmodN,u64n (Nat.lt_of_le_of_lt (Nat.div_le_self _ _) hl)];rw [Nat.zero_mul,z9e] at k;exact k
  ·exfalso; simp at hc
 ·obtain⟨hs,hn1,hn2⟩:=norm_y (y:=y) (by omega) hy64;obtain⟨hu,eu⟩:=norm_u hs hy hl hn1;have hN:=norm_num (hi:=hi) (lo:=lo) (s:=64 - bitLen y) (by omega) hl;refine div_core (v:=lo*2 ^ (64 - bitLen y) % 18446744073709551616) hs hn1 hn2 hu (za4 _ (by decide)) h0 ?_ ?_ eu (z1c hy64) ?_
  ·rw [← u64n hn1,zb2]; simp
  ·rw [← u64m,zb2]; simp
  ·rw [hN,Nat.mul_div_mul_right _ _ (zak _),Nat.mul_mod_mul_right,Nat.mul_div_cancel _ (zak _)];exact k
theorem qlp {a b c:Int}{up:Bool}(ha:wf64 a)(hb:wf64 b)(hc0:wf64 c)(k:K (.tuple #[I64 (qgb a b c up).1,I64 (qgb a b c up).2]) H) :
  CF 219 #[I64 a,I64 b,I64 c,.bool up] H K:=by
 refine qr8 ?_;unfold qgb at k;have za:zabs a < 18446744073709551616:=by unfold zabs; unfold wf64 at ha; omega
 have zb:zabs b < 18446744073709551616:=by unfold zabs; unfold wf64 at hb; omega
 refine⟨fun hc=>?_,fun hc=>?_⟩
 ·rw [if_pos (by simpa using hc)] at k;exact k
 ·have hc1:¬c < 1:=by simpa using hc
  rw [if_neg hc1] at k;obtain⟨cn,rfl⟩:∃cn:Nat,c=cn:=⟨c.toNat,by omega⟩;have hcn:cn < 18446744073709551616:=by unfold wf64 at hc0; omega
  rw [u64n hcn];rw [z8x] at k;refine⟨_,qrw ha,_,qrw hb,_,_,z1b za zb,?_⟩;have hP:zabs a*zabs b / 18446744073709551616*18446744073709551616+zabs a*zabs b % 18446744073709551616=zabs a*zabs b:=zb3 _ _;have hlo:zabs a*zabs b % 18446744073709551616 < 18446744073709551616:=za4 _ (by decide);generalize zabs a*zabs b / 18446744073709551616=hi at *;generalize zabs a*zabs b % 18446744073709551616=lo at *;generalize zabs a*zabs b=P at *;refine⟨fun hc2=>?_,fun hc2=>?_⟩
  ·rw [if_pos (by simp only [z8s] at hc2; omega)] at k;exact k
  ·have hc2:¬cn≤hi:=by simp only [z8v] at hc2; omega
   rw [if_neg hc2] at k;refine z1d (by omega) hlo hcn ⟨_,_,rfl,?_⟩;rw [hP];dsimp only at k;refine⟨fun hc3=>?_,fun hc3=>fun Jn hJ=>?_⟩
   ·rw [if_pos (by simp only [z8s] at hc3; omega)] at k;exact k
   ·have hc3:¬9223372036854775808 < P / cn:=by simp only [z8v] at hc3; omega
    rw [if_neg hc3] at k;have e1:u64.wrap (((P / cn:Nat):Int)+1)=((P / cn+1:Nat):Int):=(show ∀q:Nat,¬9223372036854775808 < q→u64.wrap ((q:Int)+1)=((q+1:Nat):Int) from fun q h=>by rw [u64e]; omega) _ hc3
    have e2:decide (((P % cn:Nat):Int)=0)=decide (P % cn=0):=by
     rw [decide_eq_decide]; omega
    rw [e1,e2];refine⟨fun hc4=>hJ _ _ ?_,fun hc4=>hJ _ _ ?_⟩
    ·rw [if_pos hc4] at k;exact⟨_,_,qj3 (Nat.lt_of_le_of_lt (Nat.succ_le_succ (Nat.le_of_not_lt hc3)) (by decide)),k⟩
    ·rw [hc4,if_neg Bool.false_ne_true] at k;exact⟨_,_,qj3 (Nat.lt_of_le_of_lt (Nat.le_of_not_lt hc3) (by decide)),k⟩
theorem z60 {rho:Int}:q1p Tryz.prog 218 #[I64 rho] H (.bool (decide (q35 rho))):=by
 refine qr9 ⟨congrArg Value.bool ?_,rfl⟩;rw [z9q];simp only [z8u,z8s,q35]
theorem qxv {x rho:Int}(hx:wf64 x)(k:K (.tuple #[I64 (lowS x rho).1,I64 (lowS x rho).2]) H):CF 185 #[I64 x,I64 rho] H K:=by
 refine qux ?_;unfold lowS at k;refine⟨_,fun _=>z60,fun hc=>?_,fun hc=>?_⟩
 ·rw [if_pos (by simp only [z94,z8s,z98,z8v] at hc; omega)] at k;exact k
 ·have hr:¬(x < -4611686018427387904∨4611686018427387904 < x∨¬q35 rho):=by
   simp only [z92,z8v,z9r,z8s] at hc;rintro (h|h|h)
   ·exact hc.1.1 h
   ·exact hc.1.2 h
   ·exact h hc.2
  rw [if_neg hr] at k;have hr2:q35 rho:=by
   rcases Classical.em (q35 rho) with h|h
   ·exact h
   ·exact absurd (.inr (.inr h)) hr
  have hr3:¬x < -4611686018427387904∧¬4611686018427387904 < x:=⟨fun h=>hr (.inl h),fun h=>hr (.inr (.inl h))⟩
  unfold q35 at hr2;refine⟨fun hc2=>?_,fun hc2=>?_⟩
  ·have h0:0 < x:=by simpa using hc2
   rw [if_pos h0] at k;rw [w64 (x:=x - 1),w64 (x:=1000000+rho)];exact qlp (by unfold wf64; omega) (by unfold wf64; omega) (by unfold wf64; omega) ⟨_,_,rfl,k⟩
  ·have h0:¬0 < x:=by simpa using hc2
   rw [if_neg h0] at k;rw [w64 (x:=1 - x),w64 (x:=1000000 - rho)];exact qlp (by unfold wf64; omega) (by unfold wf64; omega) (by unfold wf64; omega) ⟨_,_,rfl,k⟩
theorem z61 {x rho:Int}(hx:wf64 x)(k:K (.tuple #[I64 (qrv x rho).1,I64 (qrv x rho).2]) H):CF 186 #[I64 x,I64 rho] H K:=by
 refine qrc ?_;unfold qrv at k;refine⟨fun hc=>?_,fun hc=>?_⟩
 ·rw [if_pos (by simpa using hc)] at k;exact k
 ·have hr:¬(x < -4611686018427387904∨4611686018427387904 < x):=by simpa using hc
  rw [if_neg hr] at k;have e:i64.wrap (0 - x)=-x:=by rw [w64]; omega
  rw [e];exact qxv (by unfold wf64; omega) ⟨_,_,rfl,k⟩
end
end Go.Proofs.YtfmkddccnjidmaaGreatDoor
namespace Go.Nm
structure Gd where
 width:Int
 policy:Int
 most:Int
deriving DecidableEq
abbrev z62 (g:Gd):Value:=.agg #[.int .i64 g.width,.int .i64 g.policy,.int .i64 g.most]
def Gd.ok (g:Gd):Prop:=1≤g.width∧g.width≤1099511627776∧0≤g.policy∧g.policy≤3∧0≤g.most∧g.most≤4611686018427387903
instance (g:Gd):Decidable g.ok:=by unfold Gd.ok; infer_instance
def q0n (g:Gd)(t:Int):Int:=
 if g.ok then (if Int.tmod t g.width < 0 then i64.wrap (i64.wrap (Int.tdiv t g.width) - 1) else i64.wrap (Int.tdiv t g.width)) else 0
def q1m (g:Gd)(x:Gp):Int × Int × Int:=
 if g.ok then (if x.ok then (q0n g x.lo,q0n g x.hi,0) else (0,0,10)) else (0,0,21)
def qj4 (g:Gd)(x:Gp):Int × Int:=
 if (q1m g x).2.2≠0 then (0,(q1m g x).2.2) else
 if u64.wrap g.most < qxt x then (0,17) else
 if g.policy=0 then ((q1m g x).1,0) else
 if g.policy=1 then ((q1m g x).2.1,0) else
 if g.policy=2 then (q0n g (midS x),0) else
 if (q1m g x).1≠(q1m g x).2.1 then (0,17) else ((q1m g x).1,0)
structure Smp where
 asked:Int
 got:Int
 sent:Int
 came:Int
deriving DecidableEq
def Smp.z:Smp:=⟨0,0,0,0⟩
abbrev q4r (s:Smp):List Value:=[.int .i64 s.asked,.int .i64 s.got,.int .i64 s.sent,.int .i64 s.came]
abbrev aggSm (s:Smp):Value:=.agg #[.int .i64 s.asked,.int .i64 s.got,.int .i64 s.sent,.int .i64 s.came]
theorem q2c (s:Smp):(q4r s).length=4:=rfl
theorem qci (s:Smp):q08 (q4r s)=true:=rfl
abbrev isTm (t:Int):Prop:=0≤t∧t≤4611686018427387903
def Smp.ok (s:Smp):Prop:=isTm s.asked∧isTm s.got∧isTm s.sent∧isTm s.came∧s.asked≤s.came∧s.got≤s.sent
instance (s:Smp):Decidable s.ok:=by unfold Smp.ok; infer_instance
def Smp.wf (s:Smp):Prop:=wf64 s.asked∧wf64 s.got∧wf64 s.sent∧wf64 s.came
theorem Smp.ok.wf {s:Smp}(h:s.ok):s.wf:=by unfold Smp.ok isTm at h; unfold Smp.wf wf64; omega
def q9g (s:Smp)(stamp rho:Int):Gp × Int:=
 if ¬s.ok then (Gp.z,10) else
 if ¬isTm stamp∨¬q35 rho then (Gp.z,11) else
 let low:=(lowS (stamp - s.got) rho).1
 let high:=(qrv (stamp - s.sent) rho).1
 let lo:=if 0 > i64.wrap (s.asked+low) then 0 else i64.wrap (s.asked+low)
 let h1:=if (addS s.came high).2≠0 then 4611686018427387903 else (addS s.came high).1
 let hi:=if 4611686018427387903 < h1 then 4611686018427387903 else h1
 if hi < lo then (Gp.z,13) else (⟨lo,hi⟩,0)
structure Ck where
 rho:Int
 least:Int
 held:Bool
 streak:Int
 smps:List Smp
deriving DecidableEq
def q9h (rho stamp:Int)(s:Smp):Gp:=if (q9g s stamp rho).2≠0 then ⟨1,0⟩ else (q9g s stamp rho).1
def qgc (l:List Gp):Bool:=decide (0 < l.length) && decide ((qfg l).2=0)
def qfh (c:Ck)(s:Smp):Ck × Int:=
 if ¬s.ok then (c,10) else
 let l:=if 8 < c.smps.length+1 then (c.smps++[s]).drop 1 else c.smps++[s]
 let gs:=l.map (q9h c.rho s.sent)
 if qgc gs then
  let st:=if c.streak < 9223372036854775807 then c.streak+1 else c.streak
  ({ c with streak:=st,held:=if c.least≤st then false else c.held,smps:=l },0)
 else ({ c with held:=true,streak:=0,smps:=if (q9h c.rho s.sent s).ok then [s] else [] },21)
def qkr (rho stamp:Int):List Smp→List Gp × Int
 | []=>([],0)
 | s::r=>if (q9g s stamp rho).2≠0 then ([],(q9g s stamp rho).2) else ((q9g s stamp rho).1::(qkr rho stamp r).1,(qkr rho stamp r).2)
def ckAt (c:Ck)(stamp:Int):Gp × Int:=
 if c.smps=[] then (Gp.z,19) else
 if ¬isTm stamp then (Gp.z,11) else
 if (qkr c.rho stamp c.smps).2≠0 then (Gp.z,(qkr c.rho stamp c.smps).2) else qfg (qkr c.rho stamp c.smps).1
structure CkOk (c:Ck):Prop where
 len:c.smps.length≤8
 ok:∀s∈c.smps,s.ok
 st:0≤c.streak∧c.streak≤9223372036854775807
theorem ckAdd_ok {c:Ck}(h:CkOk c)(s:Smp):CkOk (qfh c s).1:=by
 unfold qfh
 split
 ·exact h
 ·rename_i hs;have hs:s.ok:=Decidable.not_not.1 hs;have hl:∀x∈(if 8 < c.smps.length+1 then (c.smps++[s]).drop 1 else c.smps++[s]),x.ok:=by
   intro x hx;have:x∈c.smps++[s]:=by
    split at hx
    ·exact zav hx
    ·exact hx
   rcases za0.1 this with h1|h1
   ·exact h.ok x h1
   ·rw [z9n] at h1; rw [h1]; exact hs
  have hn:(if 8 < c.smps.length+1 then (c.smps++[s]).drop 1 else c.smps++[s]).length≤8:=by
   have:=h.len
   split
   ·simp only [z9j,z8r,zaj]; omega
   ·simp only [z8r,zaj]; omega
  dsimp only;generalize (if 8 < c.smps.length+1 then (c.smps++[s]).drop 1 else c.smps++[s])=l at hl hn ⊢
  by_cases hag:qgc (l.map (q9h c.rho s.sent))=true
  ·rw [if_pos hag];exact⟨hn,hl,by have:=h.st; dsimp only; split <;> omega⟩
  ·rw [if_neg hag];refine⟨?_,?_,by dsimp only; omega⟩
   ·dsimp only; split <;> simp
   ·dsimp only
    split
    ·intro x hx; rw [z9n] at hx; rw [hx]; exact hs
    ·intro x hx; cases hx
end Go.Nm
namespace Go.Proofs.YtfmkddccnjidmaaGreatDoor
open Go.Nm
section
variable {F L:List Assn} {H:Heap} {K:Value→Heap→Prop}
theorem q53 {g:Gp}(h:SatL H F)(k:∀H',SatL H' F→K (.bool (decide g.ok)) H'):CF 142 #[aggG g] H K:=by
 refine quy ?_
 repeat (first|refine h.al fun _ _ h=>?_|refine q01 ?_|refine⟨fun _=>trivial,?_⟩|refine⟨_,Ra1,?_⟩|refine St1 h fun _ h=>?_|refine⟨_,fun _=>Ra1,?_⟩)
 exact k _ h.tl
theorem z1e {a b:Gp}(h:SatL H F)(k:∀H',SatL H' F→K (aggG (meet2 a b)) H'):CF 201 #[aggG a,aggG b] H K:=by
 refine qra ?_
 repeat (first|refine h.al fun _ _ h=>?_|refine q01 ?_|refine⟨fun _=>trivial,?_⟩|refine⟨_,Ra3,?_⟩|refine St3 h fun _ h=>?_|refine⟨_,_,Rs3,?_⟩|refine⟨_,fun _=>Ra3,?_⟩|refine⟨_,_,fun _=>Rs3,?_⟩)
 exact k _ h.tl.tl.tl
theorem z65 {s:Gp}{a:Option Addr}{c:Nat}{gs:List Gp}(h:SatL H F)(ha:∀H,SatL H F→rdS H a (flat encG gs))(hl:gs.length≤1000000)
  (k:∀H',SatL H' F→K (.tuple #[aggG (qj2 s gs).1,I64 (qj2 s gs).2]) H') :
  CF 200 #[aggG s,.slice a gs.length c,.func (.func 201) #[] #[]] H K:=by
 refine z0j ?_;refine h.al fun b _ h=>?_
 refine h.al fun b1 _ h=>?_
 refine⟨fun i H'=>∃(j:Nat) (t:Gp),i=j∧j≤gs.length∧qj2 s gs=qj2 t (gs.drop j)∧SatL H' (cellsA b1 [I64 0,I64 0] 53::cellsA b (encG t) 53::F),fun i _=>gs.length - i.toNat,⟨0,s,rfl,z9i _,rfl,h⟩,?_⟩
 rintro i H1 ⟨j,t,rfl,hj,e,h⟩;refine⟨fun hc=>?_,fun hc=>?_⟩
 ·have hlt:j < gs.length:=by simpa using hc
  have hr:=ha _ h.tl.tl;rw [za1 hlt,qj2] at e;refine⟨⟨by omega,by omega⟩,_,_,hr.some qha (by omega) hlt,_,_,hr.els qha hlt,?_⟩;refine h.al fun b3 _ h=>?_
  repeat (first|refine h.al fun _ _ h=>?_|refine q01 ?_|refine⟨fun _=>trivial,?_⟩|refine⟨_,Ra3,?_⟩|refine St3 h fun _ h=>?_|refine⟨_,_,Rs3,?_⟩|refine⟨_,fun _=>Ra3,?_⟩|refine⟨_,_,fun _=>Rs3,?_⟩)
  refine q53 (g:=gs[j]) h fun H2 h=>⟨_,rfl,fun hc2=>?_,fun hc2=>?_⟩
  ·have:¬(gs[j]).ok:=by simpa using hc2
   rw [if_neg this] at e
   repeat (first|refine h.al fun _ _ h=>?_|refine q01 ?_|refine⟨fun _=>trivial,?_⟩|refine⟨_,Ra3,?_⟩|refine St3 h fun _ h=>?_|refine⟨_,_,Rs3,?_⟩|refine⟨_,fun _=>Ra3,?_⟩|refine⟨_,_,fun _=>Rs3,?_⟩)
   have:=k _ h.tl.tl.tl;rw [e] at this;exact this
  ·have:(gs[j]).ok:=by simpa using hc2
   rw [if_pos this] at e
   repeat (first|refine h.al fun _ _ h=>?_|refine q01 ?_|refine⟨fun _=>trivial,?_⟩|refine⟨_,Ra3,?_⟩|refine St3 h fun _ h=>?_|refine⟨_,_,Rs3,?_⟩|refine⟨_,fun _=>Ra3,?_⟩|refine⟨_,_,fun _=>Rs3,?_⟩)
   refine⟨by kernel_rfl,?_⟩;refine z1e (a:=t) (b:=gs[j]) h fun H3 h=>⟨_,_,rfl,?_⟩
   repeat (first|refine h.al fun _ _ h=>?_|refine q01 ?_|refine⟨fun _=>trivial,?_⟩|refine⟨_,Ra3,?_⟩|refine St3 h fun _ h=>?_|refine⟨_,_,Rs3,?_⟩|refine⟨_,fun _=>Ra3,?_⟩|refine⟨_,_,fun _=>Rs3,?_⟩)
   have hw:i64.wrap ((j:Int)+1)=((j+1:Nat):Int):=by rw [w64]; omega
   rw [hw];exact⟨⟨j+1,_,rfl,hlt,e,h.tl⟩,by simp only [z8x]; omega⟩
 ·have hge:gs.length≤j:=by simpa using hc
  rw [zbf hge,qj2] at e
  repeat (first|refine h.al fun _ _ h=>?_|refine q01 ?_|refine⟨fun _=>trivial,?_⟩|refine⟨_,Ra2,?_⟩|refine St2 h fun _ h=>?_|refine⟨_,_,Rs2,?_⟩|refine⟨_,fun _=>Ra2,?_⟩|refine⟨_,_,fun _=>Rs2,?_⟩)
  refine q53 (g:=t) h fun H2 h=>⟨_,rfl,fun hc2=>?_,fun hc2=>?_⟩
  ·have:¬t.ok:=by simpa using hc2
   rw [if_neg this] at e
   repeat (first|refine h.al fun _ _ h=>?_|refine q01 ?_|refine⟨fun _=>trivial,?_⟩|refine⟨_,Ra2,?_⟩|refine St2 h fun _ h=>?_|refine⟨_,_,Rs2,?_⟩|refine⟨_,fun _=>Ra2,?_⟩|refine⟨_,_,fun _=>Rs2,?_⟩)
   have:=k _ h.tl.tl;rw [e] at this;exact this
  ·have:t.ok:=by simpa using hc2
   rw [if_pos this] at e
   repeat (first|refine h.al fun _ _ h=>?_|refine q01 ?_|refine⟨fun _=>trivial,?_⟩|refine⟨_,Ra2,?_⟩|refine St2 h fun _ h=>?_|refine⟨_,_,Rs2,?_⟩|refine⟨_,fun _=>Ra2,?_⟩|refine⟨_,_,fun _=>Rs2,?_⟩)
   have:=k _ h.tl.tl;rw [e] at this;exact this
theorem qaa {a:Option Addr}{c:Nat}{gs:List Gp}(h:SatL H F)(ha:∀H,SatL H F→rdS H a (flat encG gs))(hl:gs.length≤1000000)
  (k:∀H',SatL H' F→K (.tuple #[aggG (qfg gs).1,I64 (qfg gs).2]) H') :
  CF 159 #[.slice a gs.length c] H K:=by
 refine z0l ?_
 repeat (first|refine h.al fun _ _ h=>?_|refine q01 ?_|refine⟨fun _=>trivial,?_⟩|refine⟨_,Ra2,?_⟩|refine St2 h fun _ h=>?_|refine⟨_,_,Rs2,?_⟩|refine⟨_,fun _=>Ra2,?_⟩|refine⟨_,_,fun _=>Rs2,?_⟩)
 refine z65 (s:=⟨_,_⟩) h (fun H h=>ha H h.tl.tl) hl fun H' h=>⟨_,_,_,rfl,?_⟩
 repeat (first|refine h.al fun _ _ h=>?_|refine q01 ?_|refine⟨fun _=>trivial,?_⟩|refine⟨_,Ra2,?_⟩|refine St2 h fun _ h=>?_|refine⟨_,_,Rs2,?_⟩|refine⟨_,fun _=>Ra2,?_⟩|refine⟨_,_,fun _=>Rs2,?_⟩)
 exact k _ h.tl.tl
theorem z1f {a:Option Addr}{c:Nat}{gs:List Gp}(h:SatL H F)(ha:∀H,SatL H F→rdS H a (flat encG gs))(hl:gs.length≤1000000)
  (k:∀H',SatL H' F→K (.bool (qgc gs)) H') :
  CF 141 #[.slice a gs.length c] H K:=by
 refine qnx ?_;refine qaa h ha hl fun H' h=>⟨_,_,_,rfl,?_⟩
 repeat (first|refine h.al fun _ _ h=>?_|refine q01 ?_|refine⟨fun _=>trivial,?_⟩|refine⟨_,Ra1,?_⟩|refine St1 h fun _ h=>?_|refine⟨_,_,Rs1,?_⟩|refine⟨_,fun _=>Ra1,?_⟩|refine⟨_,_,fun _=>Rs1,?_⟩)
 have:=k _ h.tl;unfold qgc at this;rw [show decide (0 < gs.length)=decide (0 < (gs.length:Int)) by rw [decide_eq_decide]; omega] at this;exact this
theorem z1g {g:Gp}(h:SatL H F)(k:∀H',SatL H' F→K (.int .u64 (qxt g)) H'):CF 223 #[aggG g] H K:=by
 refine quv ?_
 repeat (first|refine h.al fun _ _ h=>?_|refine q01 ?_|refine⟨fun _=>trivial,?_⟩|refine⟨_,Ra1,?_⟩|refine St1 h fun _ h=>?_|refine⟨_,_,Rs1,?_⟩|refine⟨_,fun _=>Ra1,?_⟩|refine⟨_,_,fun _=>Rs1,?_⟩)
 refine q53 (g:=g) h fun H' h=>⟨_,rfl,fun hc=>?_,fun hc=>?_⟩
 ·have:¬g.ok:=by simpa using hc
  unfold qxt at k;rw [if_neg this] at k;exact k _ h.tl
 ·have:g.ok:=by simpa using hc
  unfold qxt at k;rw [if_pos this] at k
  repeat (first|refine h.al fun _ _ h=>?_|refine q01 ?_|refine⟨fun _=>trivial,?_⟩|refine⟨_,Ra1,?_⟩|refine St1 h fun _ h=>?_|refine⟨_,fun _=>Ra1,?_⟩)
  exact k _ h.tl
theorem Mid_spec {g:Gp}(h:SatL H F)(k:∀H',SatL H' F→K (I64 (midS g)) H'):CF 224 #[aggG g] H K:=by
 refine z5o ?_
 repeat (first|refine h.al fun _ _ h=>?_|refine q01 ?_|refine⟨fun _=>trivial,?_⟩|refine⟨_,Ra1,?_⟩|refine St1 h fun _ h=>?_|refine⟨_,_,Rs1,?_⟩|refine⟨_,fun _=>Ra1,?_⟩|refine⟨_,_,fun _=>Rs1,?_⟩)
 refine q53 (g:=g) h fun H' h=>⟨_,rfl,fun hc=>?_,fun hc=>?_⟩
 ·have:¬g.ok:=by simpa using hc
  unfold midS at k;rw [if_neg this] at k;exact k _ h.tl
 ·have:g.ok:=by simpa using hc
  unfold midS at k;rw [if_pos this] at k
  repeat (first|refine h.al fun _ _ h=>?_|refine q01 ?_|refine⟨fun _=>trivial,?_⟩|refine⟨_,Ra1,?_⟩|refine St1 h fun _ h=>?_|refine⟨_,fun _=>Ra1,?_⟩)
  refine⟨by decide,?_⟩;exact k _ h.tl
theorem qcj {g:Gd}(h:SatL H F)(k:∀H',SatL H' F→K (.bool (decide g.ok)) H'):CF 75 #[z62 g] H K:=by
 refine qre ?_
 repeat (first|refine h.al fun _ _ h=>?_|refine q01 ?_|refine⟨fun _=>trivial,?_⟩|refine⟨_,Ra1,?_⟩|refine St1 h fun _ h=>?_|refine⟨_,fun _=>Ra1,?_⟩)
 have:=k _ h.tl;have e:decide g.ok=((((((decide (1≤g.width)) && (decide (g.width≤1099511627776))) && (decide (0≤g.policy))) && (decide (g.policy≤3))) && (decide (0≤g.most))) && (decide (g.most≤4611686018427387903))):=by
  rw [z9q];simp only [z8u,z8s]
  constructor
  ·rintro⟨h1,h2,h3,h4,h5,h6⟩; exact⟨⟨⟨⟨⟨h1,h2⟩,h3⟩,h4⟩,h5⟩,h6⟩
  ·rintro⟨⟨⟨⟨⟨h1,h2⟩,h3⟩,h4⟩,h5⟩,h6⟩; exact⟨h1,h2,h3,h4,h5,h6⟩
 rw [e] at this;exact this
theorem qdx {g:Gd}(h:SatL H F)(k:∀H',SatL H' F→K (.tuple #[z62 (if g.ok then g else ⟨0,0,0⟩),I64 (if g.ok then 0 else 11)]) H') :
  CF 20 #[I64 g.width,I64 g.policy,I64 g.most] H K:=by
 refine z0n ?_
 repeat (first|refine h.al fun _ _ h=>?_|refine q01 ?_|refine⟨fun _=>trivial,?_⟩|refine⟨_,Ra2,?_⟩|refine St2 h fun _ h=>?_|refine⟨_,_,_,Rs2,?_⟩|refine⟨_,fun _=>Ra2,?_⟩|refine⟨_,_,_,fun _=>Rs2,?_⟩)
 refine qcj (g:=g) h fun H' h=>⟨_,rfl,fun hc=>?_,fun hc=>?_⟩
 ·have:¬g.ok:=by simpa using hc
  rw [if_neg this,if_neg this] at k
  repeat (first|refine h.al fun _ _ h=>?_|refine q01 ?_|refine⟨fun _=>trivial,?_⟩|refine⟨_,Ra2,?_⟩|refine St2 h fun _ h=>?_|refine⟨_,_,_,Rs2,?_⟩|refine⟨_,fun _=>Ra2,?_⟩|refine⟨_,_,_,fun _=>Rs2,?_⟩)
  exact k _ h.tl.tl
 ·have:g.ok:=by simpa using hc
  rw [if_pos this,if_pos this] at k
  repeat (first|refine h.al fun _ _ h=>?_|refine q01 ?_|refine⟨fun _=>trivial,?_⟩|refine⟨_,Ra2,?_⟩|refine St2 h fun _ h=>?_|refine⟨_,_,_,Rs2,?_⟩|refine⟨_,fun _=>Ra2,?_⟩|refine⟨_,_,_,fun _=>Rs2,?_⟩)
  exact k _ h.tl.tl
theorem q54 {g:Gd}{t:Int}(h:SatL H F)(k:∀H',SatL H' F→K (I64 (q0n g t)) H'):CF 22 #[z62 g,I64 t] H K:=by
 refine qny ?_
 repeat (first|refine h.al fun _ _ h=>?_|refine q01 ?_|refine⟨fun _=>trivial,?_⟩|refine⟨_,Ra1,?_⟩|refine St1 h fun _ h=>?_|refine⟨_,_,_,Rs1,?_⟩|refine⟨_,fun _=>Ra1,?_⟩|refine⟨_,_,_,fun _=>Rs1,?_⟩)
 refine qcj (g:=g) h fun H' h=>⟨_,rfl,fun hc=>?_,fun hc=>?_⟩
 ·have:¬g.ok:=by simpa using hc
  unfold q0n at k;rw [if_neg this] at k;exact k _ h.tl
 ·have hg:g.ok:=by simpa using hc
  unfold q0n at k;rw [if_pos hg] at k;have h0:g.width≠0:=by unfold Gd.ok at hg; omega
  refine⟨_,h.r 0,h0,_,h.r 0,h0,fun Jn hJ=>⟨fun hc2=>hJ _ _ ?_,fun hc2=>hJ _ _ ?_⟩⟩
  ·skip
   rw [if_pos (by simpa using hc2)] at k;exact k _ h.tl
  ·skip
   rw [if_neg (by simpa using hc2)] at k;exact k _ h.tl
theorem qlq {g:Gd}{x:Gp}(h:SatL H F)(k:∀H',SatL H' F→K (.tuple #[I64 (q1m g x).1,I64 (q1m g x).2.1,I64 (q1m g x).2.2]) H') :
  CF 191 #[z62 g,aggG x] H K:=by
 refine qrb ?_
 repeat (first|refine h.al fun _ _ h=>?_|refine q01 ?_|refine⟨fun _=>trivial,?_⟩|refine⟨_,Ra2,?_⟩|refine St2 h fun _ h=>?_|refine⟨_,_,_,Rs2,?_⟩|refine⟨_,fun _=>Ra2,?_⟩|refine⟨_,_,_,fun _=>Rs2,?_⟩)
 unfold q1m at k;refine qcj (g:=g) h fun H' h=>⟨_,rfl,fun hc=>?_,fun hc=>?_⟩
 ·have:¬g.ok:=by simpa using hc
  rw [if_neg this] at k;exact k _ h.tl.tl
 ·have:g.ok:=by simpa using hc
  rw [if_pos this] at k
  repeat (first|refine h.al fun _ _ h=>?_|refine q01 ?_|refine⟨fun _=>trivial,?_⟩|refine⟨_,Ra2,?_⟩|refine St2 h fun _ h=>?_|refine⟨_,_,Rs2,?_⟩|refine⟨_,fun _=>Ra2,?_⟩|refine⟨_,_,fun _=>Rs2,?_⟩)
  refine q53 (g:=x) h fun H' h=>⟨_,rfl,fun hc=>?_,fun hc=>?_⟩
  ·have:¬x.ok:=by simpa using hc
   rw [if_neg this] at k;exact k _ h.tl.tl
  ·have:x.ok:=by simpa using hc
   rw [if_pos this] at k
   repeat (first|refine h.al fun _ _ h=>?_|refine q01 ?_|refine⟨fun _=>trivial,?_⟩|refine⟨_,Ra2,?_⟩|refine St2 h fun _ h=>?_|refine⟨_,_,_,Rs2,?_⟩|refine⟨_,fun _=>Ra2,?_⟩|refine⟨_,_,_,fun _=>Rs2,?_⟩)
   refine q54 (g:=g) h fun H' h=>⟨_,rfl,h.r 0,h.q 1,?_⟩
   refine q54 (g:=g) h fun H' h=>⟨_,rfl,?_⟩
   exact k _ h.tl.tl
theorem z67 {g:Gd}{x:Gp}(h:SatL H F)(k:∀H',SatL H' F→K (.tuple #[I64 (qj4 g x).1,I64 (qj4 g x).2]) H') :
  CF 193 #[z62 g,aggG x] H K:=by
 refine quw ?_
 repeat (first|refine h.al fun _ _ h=>?_|refine q01 ?_|refine⟨fun _=>trivial,?_⟩|refine⟨_,Ra2,?_⟩|refine St2 h fun _ h=>?_|refine⟨_,_,_,Rs2,?_⟩|refine⟨_,_,Rs2,?_⟩|refine⟨_,fun _=>Ra2,?_⟩|refine⟨_,_,_,fun _=>Rs2,?_⟩|refine⟨_,_,fun _=>Rs2,?_⟩)
 unfold qj4 at k;refine qlq (g:=g) (x:=x) h fun H' h=>⟨_,_,_,rfl,fun hc=>?_,fun hc=>?_⟩
 ·rw [if_pos (by simpa using hc)] at k;exact k _ h.tl.tl
 ·rw [if_neg (by simpa using hc)] at k
  repeat (first|refine h.al fun _ _ h=>?_|refine q01 ?_|refine⟨fun _=>trivial,?_⟩|refine⟨_,Ra2,?_⟩|refine St2 h fun _ h=>?_|refine⟨_,_,Rs2,?_⟩|refine⟨_,fun _=>Ra2,?_⟩|refine⟨_,_,fun _=>Rs2,?_⟩)
  refine z1g (g:=x) h fun H' h=>⟨_,rfl,h.r 1,fun hc=>?_,fun hc=>?_⟩
  ·rw [if_pos (by simpa using hc)] at k;exact k _ h.tl.tl
  ·rw [if_neg (by simpa using hc)] at k
   repeat (first|refine h.al fun _ _ h=>?_|refine q01 ?_|refine⟨fun _=>trivial,?_⟩|refine⟨_,Ra2,?_⟩|refine St2 h fun _ h=>?_|refine⟨_,fun _=>Ra2,?_⟩)
   refine⟨fun hc=>?_,fun hc=>?_⟩
   ·rw [if_pos (by simpa using hc)] at k;exact k _ h.tl.tl
   rw [if_neg (by simpa using hc)] at k;refine⟨fun hc=>?_,fun hc=>?_⟩
   ·rw [if_pos (by simpa using hc)] at k;exact k _ h.tl.tl
   rw [if_neg (by simpa using hc)] at k;refine⟨fun hc=>?_,fun hc=>?_⟩
   ·rw [if_pos (by simpa using hc)] at k
    repeat (first|refine h.al fun _ _ h=>?_|refine q01 ?_|refine⟨fun _=>trivial,?_⟩|refine⟨_,Ra2,?_⟩|refine St2 h fun _ h=>?_|refine⟨_,_,_,Rs2,?_⟩|refine⟨_,_,Rs2,?_⟩|refine⟨_,fun _=>Ra2,?_⟩|refine⟨_,_,_,fun _=>Rs2,?_⟩|refine⟨_,_,fun _=>Rs2,?_⟩)
    refine Mid_spec (g:=x) h fun H' h=>⟨_,rfl,h.q 1,?_⟩
    refine q54 (g:=g) h fun H' h=>⟨_,rfl,?_⟩
    exact k _ h.tl.tl
   rw [if_neg (by simpa using hc)] at k;refine⟨fun hc=>?_,fun hc=>?_⟩
   ·rw [if_pos (by simpa using hc)] at k;exact k _ h.tl.tl
   ·rw [if_neg (by simpa using hc)] at k;exact k _ h.tl.tl
end
end Go.Proofs.YtfmkddccnjidmaaGreatDoor
namespace Go.Nm
def ckA (b:Nat)(c:Ck):Assn:=exS fun p:Option Addr × Nat=>cellsA b [.int .i64 c.rho,.int .i64 c.least,.bool c.held,.int .i64 c.streak,.slice p.1 c.smps.length p.2] 205*slA 43 4 p.1 c.smps.length p.2 (flat q4r c.smps)
theorem q36 {H:Heap}{b:Nat}{c:Ck}{L:List Assn}:SatL H (ckA b c::L)↔∃a k,SatL H (cellsA b [.int .i64 c.rho,.int .i64 c.least,.bool c.held,.int .i64 c.streak,.slice a c.smps.length k] 205::slA 43 4 a c.smps.length k (flat q4r c.smps)::L):=by
 unfold ckA;rw [q0o]
 constructor
 ·rintro⟨p,h⟩; exact⟨p.1,p.2,q22.1 h⟩
 ·rintro⟨a,k,h⟩; exact⟨(a,k),q22.2 h⟩
theorem rdS.subK {H:Heap}{a:Option Addr}{cs:List Value}{k c sz:Nat}(h:rdS H a cs)(hc:cs.length≤c*sz):rdS H (slB a k c sz) (cs.drop (k*sz)):=by
 intro j v hj;have hj2:lget cs (k*sz+j)=Option.some v:=by
  rw [q14] at hj ⊢;rw [List.getElem?_drop] at hj;exact hj
 obtain⟨h1,h2⟩:=h (k*sz+j) v hj2;have hlt:=q9s hj2;have hne:c≠k:=by rintro rfl; omega
 have e:slB a k c sz=Option.some ⟨adrB a,adrO a+k*sz,none⟩:=by
  unfold slB;rw [if_neg (by omega),h1,z9p,q3j]; rfl
 rw [e];refine⟨rfl,?_⟩;show q02 H (adrB a) (adrO a+k*sz+j)=Option.some v;rw [z9y]; exact h2
end Go.Nm
namespace Go.Proofs.YtfmkddccnjidmaaGreatDoor
open Go.Nm
theorem z68:SlT Tryz.prog 166 43 4 32:=q9r (by kernel_rfl)
theorem sl239:SlT Tryz.prog 239 53 2 16:=q9r (by kernel_rfl)
section
variable {F L:List Assn} {H:Heap} {K:Value→Heap→Prop}
theorem isTime_spec {t:Int}:q1p Tryz.prog 166 #[I64 t] H (.bool (decide (isTm t))):=by
 refine qkn ⟨congrArg Value.bool ?_,rfl⟩;rw [z9q];simp only [z8u,z8s,isTm]
theorem qj5 {t:Int}:q1p Tryz.prog 116 #[I64 t] H (.bool (decide (q35 t))):=by
 refine qkp ⟨congrArg Value.bool ?_,rfl⟩;rw [z9q];simp only [z8u,z8s,q35]
theorem q8o {s:Smp}(h:SatL H F)(k:∀H',SatL H' F→K (.bool (decide s.ok)) H'):CF 98 #[aggSm s] H K:=by
 refine qbj ?_;refine h.al fun b _ h=>?_
 refine⟨_,h.r 0,_,isTime_spec,_,fun _=>h.r 0,_,fun _=>isTime_spec,_,fun _=>h.r 0,_,fun _=>isTime_spec,_,fun _=>h.r 0,_,fun _=>isTime_spec,_,fun _=>h.r 0,_,fun _=>h.r 0,_,fun _=>h.r 0,_,fun _=>h.r 0,?_⟩
 have:=k _ h.tl;have e:decide s.ok=(((((decide (isTm s.asked) && decide (isTm s.got)) && decide (isTm s.sent)) && decide (isTm s.came)) && (decide (s.asked≤s.came))) && (decide (s.got≤s.sent))):=by
  rw [z9q];simp only [z8u,z8s]
  constructor
  ·rintro⟨h1,h2,h3,h4,h5,h6⟩; exact⟨⟨⟨⟨⟨h1,h2⟩,h3⟩,h4⟩,h5⟩,h6⟩
  ·rintro⟨⟨⟨⟨⟨h1,h2⟩,h3⟩,h4⟩,h5⟩,h6⟩; exact⟨h1,h2,h3,h4,h5,h6⟩
 rw [e] at this;exact this
theorem qhb {s:Smp}{stamp rho:Int}(h:SatL H F)(k:∀H',SatL H' F→K (.tuple #[aggG (q9g s stamp rho).1,I64 (q9g s stamp rho).2]) H') :
  CF 140 #[aggSm s,I64 stamp,I64 rho] H K:=by
 refine qfc ?_;refine h.al fun b0 _ h=>?_
 refine h.al fun b1 _ h=>?_
 refine⟨_,_,_,_,h.q 1,?_⟩;unfold q9g at k;refine q8o (s:=s) h fun H' h=>⟨_,rfl,fun hc=>?_,fun hc=>?_⟩
 ·have:¬s.ok:=by simpa using hc
  rw [if_pos this] at k
  repeat (first|refine h.al fun _ _ h=>?_|refine q01 ?_|refine⟨fun _=>trivial,?_⟩|refine⟨_,Ra2,?_⟩|refine St2 h fun _ h=>?_|refine⟨_,_,Rs2,?_⟩|refine⟨_,fun _=>Ra2,?_⟩|refine⟨_,_,fun _=>Rs2,?_⟩)
  exact k _ h.tl.tl
 ·have hs:s.ok:=by simpa using hc
  rw [if_neg (by simpa using hs)] at k;have hwf:=hs.wf;refine⟨_,isTime_spec,_,fun _=>qj5,fun hc=>?_,fun hc=>?_⟩
  ·have:¬isTm stamp∨¬q35 rho:=by
    simp only [z94,z98,z8v] at hc; exact hc
   rw [if_pos this] at k
   repeat (first|refine h.al fun _ _ h=>?_|refine q01 ?_|refine⟨fun _=>trivial,?_⟩|refine⟨_,Ra2,?_⟩|refine St2 h fun _ h=>?_|refine⟨_,_,Rs2,?_⟩|refine⟨_,fun _=>Ra2,?_⟩|refine⟨_,_,fun _=>Rs2,?_⟩)
   exact k _ h.tl.tl
  ·have ht:¬(¬isTm stamp∨¬q35 rho):=by
    simp only [z92,z9r,z8s] at hc;rintro (h|h)
    ·exact h hc.1
    ·exact h hc.2
   rw [if_neg ht] at k;have htm:isTm stamp:=by
    rcases Classical.em (isTm stamp) with h|h
    ·exact h
    ·exact absurd (.inl h) ht
   dsimp only at k;have hsk:=hs;unfold Smp.ok isTm at hs;unfold isTm at htm
   repeat (first|refine h.al fun _ _ h=>?_|refine q01 ?_|refine⟨fun _=>trivial,?_⟩|refine⟨_,Ra2,?_⟩|refine St2 h fun _ h=>?_|refine⟨_,fun _=>Ra2,?_⟩)
   dsimp only;rw [w64 (x:=stamp - s.got)];refine qxv (by unfold wf64; omega) ⟨_,_,rfl,?_⟩
   repeat (first|refine h.al fun _ _ h=>?_|refine q01 ?_|refine⟨fun _=>trivial,?_⟩|refine⟨_,Ra2,?_⟩|refine St2 h fun _ h=>?_|refine⟨_,fun _=>Ra2,?_⟩)
   dsimp only;rw [w64 (x:=stamp - s.sent)];refine z61 (by unfold wf64; omega) ⟨_,_,rfl,?_⟩;refine⟨_,h.r 1,_,h.r 1,_,_,qxu hwf.2.2.2 (highS_wf _ _),?_⟩;have last:∀hi:Int,hi=(if (addS s.came (qrv (stamp - s.sent) rho).1).2≠0 then 4611686018427387903 else (addS s.came (qrv (stamp - s.sent) rho).1).1)→q6t.r1 K b1 (lowS (stamp - s.got) rho).1 s.asked hi H':=by
    intro hi he;rw [← he] at k;unfold q6t.r1;refine⟨fun hc=>?_,fun hc=>?_⟩
    ·rw [if_pos (by simpa using hc)] at k
     repeat (first|refine h.al fun _ _ h=>?_|refine q01 ?_|refine⟨fun _=>trivial,?_⟩|refine⟨_,Ra2,?_⟩|refine St2 h fun _ h=>?_|refine⟨_,_,Rs2,?_⟩|refine⟨_,fun _=>Ra2,?_⟩|refine⟨_,_,fun _=>Rs2,?_⟩)
     exact k _ h.tl.tl
    ·rw [if_neg (by simpa using hc)] at k
     repeat (first|refine h.al fun _ _ h=>?_|refine q01 ?_|refine⟨fun _=>trivial,?_⟩|refine⟨_,Ra2,?_⟩|refine St2 h fun _ h=>?_|refine⟨_,_,Rs2,?_⟩|refine⟨_,fun _=>Ra2,?_⟩|refine⟨_,_,fun _=>Rs2,?_⟩)
     exact k _ h.tl.tl
   refine fun Jn hJ=>⟨fun hc=>hJ _ _ (last _ ?_),fun hc=>hJ _ _ (last _ ?_)⟩
   ·rw [if_pos (by simpa using hc)]
   ·rw [if_neg (by simpa using hc)]
theorem qlr {rho least:Int}(h:SatL H F)(k1:¬(q35 rho∧0≤least∧least≤100)→K (.tuple #[.pointer none,I64 11]) H)
  (k2:q35 rho∧0≤least∧least≤100→∀b H',SatL H' (ckA b ⟨rho,least,false,0,[]⟩::F)→K (.tuple #[.pointer (some ⟨b,0,none⟩),I64 0]) H') :
  CF 53 #[I64 rho,I64 least] H K:=by
 refine qv1 ?_;refine⟨_,qj5,fun hc=>k1 ?_,fun hc=>?_⟩
 ·simp only [z94,z98,z8v,z8s] at hc;rintro⟨h1,h2,h3⟩
  rcases hc with (h|h)|h
  ·exact h h1
  ·omega
  ·omega
 ·simp only [z92,z9r,z8s,z8v] at hc;have h:=h.sl_nil 43 4;refine h.al fun b _ h=>?_
  exact k2 ⟨hc.1.1,by omega,by omega⟩ _ _ (q36.2 ⟨none,0,h⟩)
theorem qab {b:Nat}{c:Ck}(h:SatL H (ckA b c::F)):q1p Tryz.prog 70 #[.pointer (some ⟨b,0,none⟩)] H (.bool c.held):=by
 obtain⟨a,n,h⟩:=q36.1 h;exact qrf ⟨_,h.r 0,rfl,rfl⟩
theorem qvf {b:Nat}{c:Ck}(h:SatL H (ckA b c::F)):q1p Tryz.prog 125 #[.pointer (some ⟨b,0,none⟩)] H (I64 c.streak):=by
 obtain⟨a,n,h⟩:=q36.1 h;exact qko ⟨_,h.r 0,rfl,rfl⟩
theorem qls {a:Option Addr}{c:Nat}{l:List Smp}(h:SatL H F)(ha:∀H,SatL H F→rdS H a (flat q4r l))(hl:l.length≤1000000)
  (k:∀a' c' H',SatL H' (slA 43 4 a' l.length c' (flat q4r l)::F)→K (.slice a' l.length c') H'):CF 155 #[.slice a l.length c] H K:=by
 refine qa7 ⟨fun hc=>?_,fun hc=>?_⟩
 ·have:a=none:=by simpa using hc
  subst this;have hz:=qb8 (ha H h);have:l=[]:=by
   have:=congrArg List.length hz;rw [q0l q2c] at this;exact zac (by simp at this; omega)
  subst this;exact k none 0 H (h.sl_nil 43 4)
 ·refine h.al fun b _ h=>?_
  have hr:=ha _ h.tl;have h1:=SatL.sl_pt (cs:=[]) h 4 0 rfl;refine SatL.append (m:=l.length) z68 h1 0 rfl hr (q0l q2c l) (q47 qci l) (by omega) (by omega) fun a' c' H' h2=>⟨_,_,_,rfl,?_⟩
  have h3:SatL H' (slA 43 4 a' (0+l.length) c' ([]++flat q4r l)::F):=h2;rw [z9e,za6] at h3;have:=k a' c' H' h3;simpa using this
theorem qrx {a:Option Addr}{c:Nat}{l:List Smp}{j:Nat}(hj:j≤l.length)(h:SatL H (slA 43 4 a l.length c (flat q4r l)::F))
  (k:∀H',SatL H' (slA 43 4 a (l.length - j) c (flat q4r (l.drop j))::F)→K (.slice a (l.length - j) c) H'):CF 139 #[.slice a l.length c,I64 0,I64 j] H K:=by
 have hnc:=h.sl_nc 0 rfl;refine q9e ?_;refine⟨⟨by omega,by omega,by omega,by omega⟩,fun hc=>?_,fun hc=>?_⟩
 ·have:j=0:=by simp only [z8s] at hc; omega
  subst this;exact k H h
 ·have hj0:0 < j:=by simp only [z8v] at hc; omega
  refine⟨⟨by omega,by omega,by omega⟩,⟨by omega,by omega,by omega⟩,?_⟩;have hr:=h.sl_rd 0 rfl;have hs:=hr.some q2c (by omega) (k:=0) (by omega);have e0:slB a 0 c 4=a:=by
   unfold slB;rw [if_neg (by omega),hs,z9p,q3j]; simp
  have hw:=hr.subK (k:=j) (c:=c) (sz:=4) (by rw [q0l q2c]; omega);rw [qid q2c] at hw;have ht:=h.sl_take 0 rfl 0 (by omega);simp only [Nat.zero_mul,zaf] at ht;rw [e0];show RunW Tryz.prog (Builtin.append_ #[166,166] 166 #[.slice a 0 c,.slice (slB a j c 4) (l.length - j) (c - j)]) H _;refine SatL.appendIn z68 ht 0 rfl hw (by rw [q0l q2c,z9j]) (q47 qci _) (by omega) fun H' h2=>⟨_,_,_,rfl,⟨by omega,by omega,by omega⟩,?_⟩
  rw [z9e];have h3:SatL H' (slA 43 4 a (0+(l.length - j)) c ([]++flat q4r (l.drop j))::F):=h2;rw [z9e,za6] at h3;exact SatL.clearS z68 (by kernel_rfl) h3 0 rfl (by omega) fun _ H4 h4=>k _ h4
theorem qac {b:Nat}{c:Ck}(h:SatL H (ckA b c::F))(hl:c.smps.length≤1000000)
  (k:∀a' c' H',SatL H' (slA 43 4 a' c.smps.length c' (flat q4r c.smps)::ckA b c::F)→K (.slice a' c.smps.length c') H'):CF 84 #[.pointer (some ⟨b,0,none⟩)] H K:=by
 obtain⟨a,n,h⟩:=q36.1 h;refine qiv ⟨_,_,_,h.r 0,?_⟩;refine qls h (fun H h=>h.sl_rd 1 rfl) hl fun a' c' H' h=>⟨_,_,_,rfl,k _ _ _ ?_⟩
 have h:=h.o [1,2,0] 3;have h:=q36.2 ⟨_,_,h⟩;exact h.o [1,0] 2
theorem z1h {b:Nat}{c:Ck}{held:Bool}{streak:Int}{a0:Option Addr}{n0:Nat}{l:List Smp}(h:SatL H (ckA b c::F))(ha:∀H,SatL H F→rdS H a0 (flat q4r l))
  (k1:¬(l.length≤8∧0≤streak∧∀s∈l,s.ok)→∀H',SatL H' (ckA b c::F)→K (I64 10) H')
  (k2:(l.length≤8∧0≤streak∧∀s∈l,s.ok)→∀H',SatL H' (ckA b ⟨c.rho,c.least,held,streak,l⟩::F)→K (I64 0) H') :
  CF 106 #[.pointer (some ⟨b,0,none⟩),.bool held,I64 streak,.slice a0 l.length n0] H K:=by
 refine quz ?_;refine⟨fun hc=>k1 ?_ _ h,fun hc=>?_⟩
 ·simp only [z94,z8s] at hc;omega
 ·have hc':l.length≤8∧0≤streak:=by simp only [z92,z8v] at hc; omega
  refine⟨fun i H'=>∃j:Nat,i=j∧j≤l.length∧(∀s∈l.take j,s.ok)∧SatL H' (ckA b c::F),fun i _=>l.length - i.toNat,⟨0,rfl,z9i _,fun _ hs=>by simp at hs,h⟩,?_⟩
  rintro i H1 ⟨j,rfl,hj,hok,h⟩;refine⟨fun hc=>?_,fun hc=>?_⟩
  ·have hlt:j < l.length:=by simpa using hc
   have hr:=ha _ h.tl;refine⟨⟨by omega,by omega⟩,_,_,hr.some q2c (by omega) hlt,_,_,_,_,hr.els q2c hlt,?_⟩
   repeat (first|refine h.al fun _ _ h=>?_|refine q01 ?_|refine⟨fun _=>trivial,?_⟩|refine⟨_,Ra1,?_⟩|refine St1 h fun _ h=>?_|refine⟨_,_,_,_,Rs1,?_⟩|refine⟨_,fun _=>Ra1,?_⟩|refine⟨_,_,_,_,fun _=>Rs1,?_⟩)
   refine q8o (s:=l[j]) h fun H2 h=>⟨_,rfl,fun hc2=>?_,fun hc2=>?_⟩
   ·have:¬(l[j]).ok:=by simpa using hc2
    exact k1 (fun hh=>this (hh.2.2 _ (z90 hlt))) _ h.tl
   ·have hok2:(l[j]).ok:=by simpa using hc2
    have hw:i64.wrap ((j:Int)+1)=((j+1:Nat):Int):=by rw [w64]; omega
    rw [hw];refine⟨⟨j+1,rfl,hlt,fun s hs=>?_,h.tl⟩,by simp only [z8x]; omega⟩
    rw [List.take_add_one,List.getElem?_eq_getElem hlt] at hs
    rcases za0.1 hs with hs|hs
    ·exact hok s hs
    ·simp at hs; rw [hs]; exact hok2
  ·have hge:l.length≤j:=by simpa using hc
   rw [z9d hge] at hok;obtain⟨a,n,h⟩:=q36.1 h;refine qls h (fun H h=>ha H h.tl.tl) (by omega) fun a' c' H' h=>⟨_,_,_,rfl,?_⟩
   repeat (first|refine h.al fun _ _ h=>?_|refine q01 ?_|refine⟨fun _=>trivial,?_⟩|refine⟨_,Ra2,?_⟩|refine St2 h fun _ h=>?_|refine⟨_,fun _=>Ra2,?_⟩)
   refine k2 ⟨hc'.1,hc'.2,hok⟩ _ ?_;have h:=h.o [1,0] 3;exact q36.2 ⟨_,_,h⟩
end
end Go.Proofs.YtfmkddccnjidmaaGreatDoor
namespace Go.Nm
theorem dn {p:Prop}[Decidable p](h:(!decide p)=true):¬p:=by simpa using h
theorem dy {p:Prop}[Decidable p](h:(!decide p)=false):p:=by simpa using h
end Go.Nm
namespace Go.Proofs.YtfmkddccnjidmaaGreatDoor
open Go.Nm
section
variable {F L:List Assn} {H:Heap} {K:Value→Heap→Prop}
theorem z69 {b:Nat}{c:Ck}{stamp:Int}(hl8:c.smps.length≤8)(h:SatL H (ckA b c::F))
  (k:∀H',SatL H' (ckA b c::F)→K (.tuple #[aggG (ckAt c stamp).1,I64 (ckAt c stamp).2]) H') :
  CF 158 #[.pointer (some ⟨b,0,none⟩),I64 stamp] H K:=by
 obtain⟨a,n,h⟩:=q36.1 h;refine z0m ?_;unfold ckAt at k;refine h.al fun b0 _ h=>?_
 refine⟨_,_,_,h.r 1,fun hc=>?_,fun hc=>?_⟩
 ·have:c.smps=[]:=by simpa using hc
  rw [if_pos this] at k
  repeat (first|refine h.al fun _ _ h=>?_|refine q01 ?_|refine⟨fun _=>trivial,?_⟩|refine⟨_,Ra1,?_⟩|refine St1 h fun _ h=>?_|refine⟨_,_,Rs1,?_⟩|refine⟨_,fun _=>Ra1,?_⟩|refine⟨_,_,fun _=>Rs1,?_⟩)
  exact k _ (q36.2 ⟨_,_,h.tl⟩)
 have hne:c.smps≠[]:=by simpa using hc
 rw [if_neg hne] at k;refine⟨_,isTime_spec,fun hc=>?_,fun hc=>?_⟩
 ·have:¬isTm stamp:=dn hc;rw [if_pos this] at k
  repeat (first|refine h.al fun _ _ h=>?_|refine q01 ?_|refine⟨fun _=>trivial,?_⟩|refine⟨_,Ra1,?_⟩|refine St1 h fun _ h=>?_|refine⟨_,_,Rs1,?_⟩|refine⟨_,fun _=>Ra1,?_⟩|refine⟨_,_,fun _=>Rs1,?_⟩)
  exact k _ (q36.2 ⟨_,_,h.tl⟩)
 have htm:isTm stamp:=dy hc;rw [if_neg (not_not_intro htm)] at k;refine⟨_,_,_,h.r 1,?_⟩;refine h.mk0 sl239 (by omega) (by omega) fun ga H3 h=>⟨_,_,_,rfl,_,_,_,h.r 2,?_⟩
 refine⟨fun ga gn gc i H'=>∃(j:Nat) (gs:List Gp),i=j∧j≤c.smps.length∧gn=gs.length∧gs.length=j∧
   qkr c.rho stamp c.smps=(gs++(qkr c.rho stamp (c.smps.drop j)).1,(qkr c.rho stamp (c.smps.drop j)).2)∧
   SatL H' (slA 53 2 ga gs.length gc (flat encG gs)::cellsA b0 [I64 0,I64 0] 53::cellsA b [I64 c.rho,I64 c.least,.bool c.held,I64 c.streak,.slice a c.smps.length n] 205::slA 43 4 a c.smps.length n (flat q4r c.smps)::F),
  fun _ _ _ i _=>c.smps.length - i.toNat,⟨0,[],rfl,z9i _,rfl,rfl,rfl,h⟩,?_⟩
 rintro ga gn gc i H4 ⟨j,gs,rfl,hj,rfl,hgj,e,h⟩;refine⟨fun hc=>?_,fun hc=>?_⟩
 ·have hlt:j < c.smps.length:=by simpa using hc
  have hr:=h.sl_rd 3 rfl;rw [za1 hlt,qkr] at e;refine⟨⟨by omega,by omega⟩,_,_,hr.some q2c (by omega) hlt,_,_,_,_,hr.els q2c hlt,?_⟩
  repeat (first|refine h.al fun _ _ h=>?_|refine q01 ?_|refine⟨fun _=>trivial,?_⟩|refine⟨_,Ra1,?_⟩|refine St1 h fun _ h=>?_|refine⟨_,fun _=>Ra1,?_⟩)
  refine fun Jn hJ=>?_
  have fin:∀gb H7,SatL H7 (cellsA gb (encG (q9g c.smps[j] stamp c.rho).1) 53::slA 53 2 ga gs.length gc (flat encG gs)::cellsA b0 [I64 0,I64 0] 53::cellsA b [I64 c.rho,I64 c.least,.bool c.held,I64 c.streak,.slice a c.smps.length n] 205::slA 43 4 a c.smps.length n (flat q4r c.smps)::F)→Jn gb 0 (q9g c.smps[j] stamp c.rho).2 H7:=by
   intro gb H7 h;refine hJ _ _ _ _ ?_;refine⟨fun hc=>?_,fun hc=>?_⟩
   ·have he:(q9g c.smps[j] stamp c.rho).2≠0:=by simpa using hc
    rw [if_pos he] at e;rw [e,if_pos he] at k
    repeat (first|refine h.al fun _ _ h=>?_|refine q01 ?_|refine⟨fun _=>trivial,?_⟩|refine⟨_,Ra3,?_⟩|refine St3 h fun _ h=>?_|refine⟨_,_,Rs3,?_⟩|refine⟨_,fun _=>Ra3,?_⟩|refine⟨_,_,fun _=>Rs3,?_⟩)
    exact k _ (q36.2 ⟨_,_,h.tl.tl.tl⟩)
   ·have he:¬(q9g c.smps[j] stamp c.rho).2≠0:=by simpa using hc
    rw [if_neg he] at e;refine⟨_,_,h.q 0,?_⟩;rintro b3 _ rfl rfl;refine h.append1 sl239 1 rfl rfl rfl (by omega) (by omega) fun a' c' H' h=>⟨_,_,_,rfl,?_⟩
    have hw:i64.wrap ((j:Int)+1)=((j+1:Nat):Int):=by rw [w64]; omega
    rw [hw];have h:=h.tl;refine⟨⟨j+1,gs++[(q9g c.smps[j] stamp c.rho).1],rfl,hlt,by simp,by simp [hgj],?_,?_⟩,by simp only [z8x]; omega⟩
    ·rw [e,z91]; rfl
    ·rw [q0k,q7d,z8r];exact h
  refine⟨_,_,_,_,h.q 0,_,h.r 3,?_,?_⟩
  ·refine qhb (s:=c.smps[j]) h fun H' h=>⟨_,_,_,rfl,?_⟩
   repeat (first|refine h.al fun _ _ h=>?_|refine q01 ?_|refine⟨fun _=>trivial,?_⟩|refine⟨_,Ra1,?_⟩|refine St1 h fun _ h=>?_|refine⟨_,fun _=>Ra1,?_⟩)
   exact fin _ _ (h.o [0] 2)
  ·refine h.al fun b5 _ h=>?_
   refine⟨h.r 4,h.q 1,?_⟩;refine qhb (s:=c.smps[j]) h fun H' h=>⟨_,_,_,rfl,?_⟩
   repeat (first|refine h.al fun _ _ h=>?_|refine q01 ?_|refine⟨fun _=>trivial,?_⟩|refine⟨_,Ra1,?_⟩|refine St1 h fun _ h=>?_|refine⟨_,fun _=>Ra1,?_⟩)
   exact fin _ _ (h.o [0] 2)
 ·have hge:c.smps.length≤j:=by simpa using hc
  rw [zbf hge,qkr,z9o] at e;rw [e,if_neg (fun hh=>hh rfl)] at k
  refine qaa (gs:=gs) h (fun H h=>h.sl_rd 0 rfl) (by omega) fun H' h=>⟨_,_,_,rfl,?_⟩
  repeat (first|refine h.al fun _ _ h=>?_|refine q01 ?_|refine⟨fun _=>trivial,?_⟩|refine⟨_,Ra2,?_⟩|refine St2 h fun _ h=>?_|refine⟨_,_,Rs2,?_⟩|refine⟨_,fun _=>Ra2,?_⟩|refine⟨_,_,fun _=>Rs2,?_⟩)
  exact k _ (q36.2 ⟨_,_,h.tl.tl⟩)
theorem qvg {a:Option Addr}{c n:Nat}{gs:List Gp}(hn:gs.length=n)(h:SatL H F)(ha:∀H,SatL H F→rdS H a (flat encG gs))(hl:n≤1000000)
  (k:∀H',SatL H' F→K (.bool (qgc gs)) H') :
  CF 141 #[.slice a n c] H K:=by
 subst hn;exact z1f h ha hl k
theorem z1i {b:Nat}{c:Ck}{s:Smp}(ok:CkOk c)(h:SatL H (ckA b c::F))
  (k:∀H',SatL H' (ckA b (qfh c s).1::F)→K (I64 (qfh c s).2) H') :
  CF 68 #[.pointer (some ⟨b,0,none⟩),aggSm s] H K:=by
 obtain⟨a,n,h⟩:=q36.1 h;have hl8:=ok.len;have hst:=ok.st;refine qv0 ?_;unfold qfh at k;refine h.al fun b0 _ h=>?_
 refine⟨_,_,_,_,h.q 0,?_⟩;refine q8o (s:=s) h fun H' h=>⟨_,rfl,fun hc=>?_,fun hc=>?_⟩
 ·have:¬s.ok:=by simpa using hc
  rw [if_pos this] at k;exact k _ (q36.2 ⟨_,_,h.tl⟩)
 have hs:s.ok:=by simpa using hc
 rw [if_neg (by simpa using hs)] at k;refine⟨_,_,_,h.r 1,_,_,_,_,h.q 0,?_⟩;rintro b1 _ rfl rfl;have hcell:=(h.push (.cells #[I64 s.asked,I64 s.got,I64 s.sent,I64 s.came] 43 (0,0))).rd 2 rfl 4;refine⟨hcell,?_⟩;refine h.append1 z68 2 rfl rfl rfl (by omega) (by omega) fun a1 c1 H1 h=>⟨_,_,_,rfl,?_⟩
 have ef:flat q4r c.smps++[I64 s.asked,I64 s.got,I64 s.sent,I64 s.came]=flat q4r (c.smps++[s]):=by rw [q0k,q7d]
 rw [ef] at h;have hlS:∀x∈(if 8 < c.smps.length+1 then (c.smps++[s]).drop 1 else c.smps++[s]),x.ok:=by
  intro x hx;have:x∈c.smps++[s]:=by
   split at hx
   ·exact zav hx
   ·exact hx
  rcases za0.1 this with h1|h1
  ·exact ok.ok x h1
  ·rw [z9n] at h1; rw [h1]; exact hs
 have rest:∀(l:List Smp) (a2:Option Addr) (c2:Nat) (H5:Heap),l.length≤8→l.getLast?=some s→(∀H',
    SatL H' (ckA b (if qgc (l.map (q9h c.rho s.sent)) then
     ({ c with streak:=if c.streak < 9223372036854775807 then c.streak+1 else c.streak,held:=if c.least≤(if c.streak < 9223372036854775807 then c.streak+1 else c.streak) then false else c.held,smps:=l },(0:Int))
     else ({ c with held:=true,streak:=0,smps:=if (q9h c.rho s.sent s).ok then [s] else [] },21)).1::F)→
    K (I64 (if qgc (l.map (q9h c.rho s.sent)) then
     ({ c with streak:=if c.streak < 9223372036854775807 then c.streak+1 else c.streak,held:=if c.least≤(if c.streak < 9223372036854775807 then c.streak+1 else c.streak) then false else c.held,smps:=l },(0:Int))
     else ({ c with held:=true,streak:=0,smps:=if (q9h c.rho s.sent s).ok then [s] else [] },21)).2) H')→
   SatL H5 (cellsA b0 [I64 s.asked,I64 s.got,I64 s.sent,I64 s.came] 43::cellsA b [I64 c.rho,I64 c.least,.bool c.held,I64 c.streak,.slice a2 l.length c2] 205::slA 43 4 a2 l.length c2 (flat q4r l)::F)→
   qiw.r7 b 0 K b0 H5:=by
  intro l a2 c2 H5 hl8 hlast k h;unfold qiw.r7;refine⟨_,_,_,h.r 1,?_⟩;refine h.mk0 sl239 (by omega) (by omega) fun ga H6 h=>⟨_,_,_,rfl,_,_,_,h.r 2,?_⟩
  refine⟨fun ga gn gc i H'=>∃(j:Nat),i=j∧j≤l.length∧j=gn∧
    SatL H' (slA 53 2 ga j gc (flat encG ((l.take j).map (q9h c.rho s.sent)))::cellsA b0 [I64 s.asked,I64 s.got,I64 s.sent,I64 s.came] 43::cellsA b [I64 c.rho,I64 c.least,.bool c.held,I64 c.streak,.slice a2 l.length c2] 205::slA 43 4 a2 l.length c2 (flat q4r l)::F),
   fun _ _ _ i _=>l.length - i.toNat,⟨0,rfl,z9i _,rfl,h⟩,?_⟩
  rintro ga gn gc i H7 ⟨j,rfl,hj,rfl,h⟩;refine⟨fun hc=>?_,fun hc=>?_⟩
  ·have hlt:j < l.length:=by simpa using hc
   have hr:=h.sl_rd 3 rfl;refine⟨⟨by omega,by omega⟩,_,_,hr.some q2c (by omega) hlt,_,_,_,_,hr.els q2c hlt,?_⟩
   repeat (first|refine h.al fun _ _ h=>?_|refine q01 ?_|refine⟨fun _=>trivial,?_⟩|refine⟨_,Ra1,?_⟩|refine St1 h fun _ h=>?_|refine⟨_,fun _=>Ra1,?_⟩)
   refine fun Jn hJ=>?_
   have fin:∀gb H10,SatL H10 (cellsA gb (encG (q9g l[j] s.sent c.rho).1) 53::slA 53 2 ga j gc (flat encG ((l.take j).map (q9h c.rho s.sent)))::cellsA b0 [I64 s.asked,I64 s.got,I64 s.sent,I64 s.came] 43::cellsA b [I64 c.rho,I64 c.least,.bool c.held,I64 c.streak,.slice a2 l.length c2] 205::slA 43 4 a2 l.length c2 (flat q4r l)::F)→Jn gb 0 (q9g l[j] s.sent c.rho).2 H10:=by
    intro gb H10 h;refine hJ _ _ _ _ ?_;refine fun Jn2 hJ2=>?_
    have fin2:∀H11,SatL H11 (cellsA gb (encG (q9h c.rho s.sent l[j])) 53::slA 53 2 ga j gc (flat encG ((l.take j).map (q9h c.rho s.sent)))::cellsA b0 [I64 s.asked,I64 s.got,I64 s.sent,I64 s.came] 43::cellsA b [I64 c.rho,I64 c.least,.bool c.held,I64 c.streak,.slice a2 l.length c2] 205::slA 43 4 a2 l.length c2 (flat q4r l)::F)→Jn2 H11:=by
     intro H11 h;refine hJ2 _ ?_;refine⟨_,_,h.q 0,?_⟩;rintro b4 _ rfl rfl;refine h.append1 sl239 1 rfl rfl rfl (by omega) (by omega) fun a' c' H' h=>⟨_,_,_,rfl,?_⟩
     have hw:i64.wrap ((j:Int)+1)=((j+1:Nat):Int):=by rw [w64]; omega
     rw [hw];have h:=h.tl;refine⟨⟨j+1,rfl,hlt,rfl,?_⟩,by simp only [z8x]; omega⟩;rw [List.take_add_one,List.getElem?_eq_getElem hlt,z9h,q0k];rw [Option.toList_some,List.map_singleton,q7d];exact h
    refine⟨fun hc=>?_,fun hc=>?_⟩
    ·have he:(q9g l[j] s.sent c.rho).2≠0:=by simpa using hc
     have eg:q9h c.rho s.sent l[j]=⟨1,0⟩:=by unfold q9h; rw [if_pos he]
     repeat (first|refine h.al fun _ _ h=>?_|refine q01 ?_|refine⟨fun _=>trivial,?_⟩|refine⟨_,Ra1,?_⟩|refine St1 h fun _ h=>?_|refine⟨_,fun _=>Ra1,?_⟩)
     refine fin2 _ ?_;rw [eg]; exact h
    ·have he:¬(q9g l[j] s.sent c.rho).2≠0:=by simpa using hc
     have eg:q9h c.rho s.sent l[j]=(q9g l[j] s.sent c.rho).1:=by unfold q9h; rw [if_neg he]
     refine fin2 _ ?_;rw [eg]; exact h
   refine⟨_,_,_,_,h.q 0,_,h.r 2,_,h.r 3,?_,?_⟩
   ·refine qhb (s:=l[j]) h fun H' h=>⟨_,_,_,rfl,?_⟩
    repeat (first|refine h.al fun _ _ h=>?_|refine q01 ?_|refine⟨fun _=>trivial,?_⟩|refine⟨_,Ra1,?_⟩|refine St1 h fun _ h=>?_|refine⟨_,fun _=>Ra1,?_⟩)
    exact fin _ _ (h.o [0] 2)
   ·refine h.al fun b5 _ h=>?_
    refine⟨h.r 4,h.r 3,h.q 1,?_⟩;refine qhb (s:=l[j]) h fun H' h=>⟨_,_,_,rfl,?_⟩
    repeat (first|refine h.al fun _ _ h=>?_|refine q01 ?_|refine⟨fun _=>trivial,?_⟩|refine⟨_,Ra1,?_⟩|refine St1 h fun _ h=>?_|refine⟨_,fun _=>Ra1,?_⟩)
    exact fin _ _ (h.o [0] 2)
  ·have hge:l.length≤j:=by simpa using hc
   obtain rfl:j=l.length:=by omega
   rw [z9d (z8z _)] at h;have hlen:(l.map (q9h c.rho s.sent)).length=l.length:=z9c _;have hne:0 < l.length:=by
    cases l with
    | nil=>simp at hlast
    | cons x r=>simp
   have hla:l[l.length - 1]=s:=by
    rw [List.getLast?_eq_getElem?,List.getElem?_eq_getElem (by omega)] at hlast;exact Option.some.inj hlast
   refine qvg hlen h (fun H h=>h.sl_rd 0 rfl) (by omega) fun H21 h=>⟨_,rfl,fun hag=>?_,fun hag=>?_⟩
   ·rw [if_pos hag] at k;refine⟨_,h.r 2,fun Jn3 hJ3=>?_⟩
    have fin3:∀(st:Int) H22,st=(if c.streak < 9223372036854775807 then c.streak+1 else c.streak)→SatL H22 (slA 53 2 ga l.length gc (flat encG (l.map (q9h c.rho s.sent)))::cellsA b0 [I64 s.asked,I64 s.got,I64 s.sent,I64 s.came] 43::cellsA b [I64 c.rho,I64 c.least,.bool c.held,I64 st,.slice a2 l.length c2] 205::slA 43 4 a2 l.length c2 (flat q4r l)::F)→Jn3 H22:=by
     intro st H22 est h;refine hJ3 _ ?_;rw [← est] at k;refine⟨_,h.r 2,_,h.r 2,fun Jn4 hJ4=>⟨fun hc=>?_,fun hc=>?_⟩⟩
     ·rw [if_pos (by simpa using hc)] at k;refine h.st 2 rfl rfl fun H24 h=>hJ4 _ ?_
      exact k _ (q36.2 ⟨_,_,h.tl.tl⟩)
     ·rw [if_neg (by simpa using hc)] at k;exact hJ4 _ (k _ (q36.2 ⟨_,_,h.tl.tl⟩))
    refine⟨fun hc=>?_,fun hc=>?_⟩
    ·have hlt:c.streak < 9223372036854775807:=by simpa using hc
     refine⟨_,h.r 2,?_⟩;refine h.st 2 rfl rfl fun H25 h=>fin3 _ _ ?_ h
     rw [if_pos hlt,w64]
    ·have hlt:¬c.streak < 9223372036854775807:=by simpa using hc
     exact fin3 _ _ (by rw [if_neg hlt]) h
   ·rw [if_neg (by rw [hag]; decide)] at k;refine h.st 2 rfl rfl fun H26 h=>?_
    refine h.st 2 rfl rfl fun H27 h=>?_
    refine h.st 2 rfl rfl fun H28 h=>?_
    have hw:i64.wrap ((l.length:Int) - 1)=((l.length - 1:Nat):Int):=by rw [w64]; omega
    rw [hw];have hr:=h.sl_rd 0 rfl;have hels:=hr.els qha (k:=l.length - 1) (by omega);rw [za9,hla] at hels;refine⟨⟨by omega,by omega⟩,_,_,hr.some qha (by omega) (k:=l.length - 1) (by omega),_,_,hels,?_⟩;refine q53 (g:=q9h c.rho s.sent s) h fun H29 h=>⟨_,rfl,fun Jn5 hJ5=>⟨fun hc=>?_,fun hc=>?_⟩⟩
    ·rw [if_pos (by simpa using hc)] at k;refine⟨_,_,_,_,h.q 1,?_⟩;refine h.al fun b8 _ h=>?_
     refine h.st 3 rfl rfl fun H32 h=>hJ5 _ ?_
     have h:=h.o [0,3] 5;have h:=SatL.sl_pt h 4 1 rfl;have h:=h.o [1,0] 2;exact k _ (q36.2 ⟨_,_,h⟩)
    ·rw [if_neg (by simpa using hc)] at k;refine hJ5 _ ?_;have h:=h.o [2] 4;have h:=(h.sl_nil 43 4).o [1,0] 2;exact k _ (q36.2 ⟨_,_,h⟩)
 refine h.st 1 rfl rfl fun H2 h=>?_
 have hlast0:(c.smps++[s]).getLast?=some s:=by simp
 refine⟨_,_,_,h.r 1,fun Jn hJ=>⟨fun hc=>?_,fun hc=>?_⟩⟩
 ·have h9:8 < c.smps.length+1:=by have:=z8q hc; omega
  rw [if_pos h9] at k;refine⟨_,_,_,h.r 1,?_⟩;have h:=h.o [2,0,1] 3;have hlen:c.smps.length+1=(c.smps++[s]).length:=by simp
  rw [hlen] at h ⊢;refine qrx (j:=1) (by simp) h fun H33 h=>⟨_,_,_,rfl,?_⟩
  refine h.st 2 rfl rfl fun H34 h=>hJ _ ?_
  have h:=h.o [1,2,0] 3;have hd:(c.smps++[s]).length - 1=((c.smps++[s]).drop 1).length:=by simp
  rw [hd] at h;refine rest _ _ _ _ (by simp; omega) ?_ k h;have h8:c.smps≠[]:=by rintro e; rw [e] at h9; simp at h9
  rw [List.drop_append_of_le_length (by omega),List.getLast?_append];simp
 ·have h9:¬8 < c.smps.length+1:=by have:=z8t hc; omega
  rw [if_neg h9] at k;refine hJ _ ?_;have hlen:c.smps.length+1=(c.smps++[s]).length:=by simp
  rw [hlen] at h;exact rest _ _ _ _ (by simp; omega) hlast0 k h
end
end Go.Proofs.YtfmkddccnjidmaaGreatDoor
namespace Go.Nm
structure Lab where
 name:ByteArray
 value:ByteArray
abbrev encL (l:Lab):List Value:=[.string l.name,.string l.value]
theorem q1f (l:Lab):(encL l).length=2:=rfl
theorem qfi (l:Lab):q08 (encL l)=true:=rfl
structure Ev where
 stamp:Int
 value:Int
 name:ByteArray
 labs:List Lab
 la:Option Addr
 lc:Nat
def Ev.z:Ev:=⟨0,0,⟨#[]⟩,[],none,0⟩
abbrev encV (e:Ev):List Value:=[I64 e.stamp,I64 e.value,.string e.name,.slice e.la e.labs.length e.lc]
abbrev aggV (e:Ev):Value:=.agg #[I64 e.stamp,I64 e.value,.string e.name,.slice e.la e.labs.length e.lc]
theorem q0u (e:Ev):(encV e).length=4:=rfl
theorem qlt (e:Ev):q08 (encV e)=true:=rfl
end Go.Nm
namespace Go.Proofs.YtfmkddccnjidmaaGreatDoor
open Go.Nm
theorem sl44:SlT Tryz.prog 44 95 4 56:=q9r (by kernel_rfl)
theorem sl91:SlT Tryz.prog 91 267 2 32:=q9r (by kernel_rfl)
theorem qvh:MapT Tryz.prog 209 2 95 aggV Ev.z:=qig Tryz.underlying209 (by kernel_rfl)
theorem ko2:qnd Tryz.prog 2 I64:=qia Tryz.underlying2
abbrev holdC (hb mb:Nat)(next most:Int):Assn:=cellsA hb [I64 next,I64 most,.map (some mb)] 211
abbrev mapV (mb:Nat)(l:RowL Ev):Assn:=mapA I64 aggV mb l
section
variable {hb mb:Nat} {s:HS Ev} {F:List Assn} {H:Heap} {K:Value→Heap→Prop}
theorem z6a {next most:Int}(h:SatL H F)
  (k1:next < 0∨1099511627776 < next∨most < 1∨256 < most→K (.tuple #[.pointer none,I64 11]) H)
  (k2:∀hb mb H',0≤next∧next≤1099511627776∧1≤most∧most≤256→SatL H' (holdC hb mb next most::mapV mb []::F)→K (.tuple #[PA hb 0,I64 0]) H') :
  CF 56 #[I64 next,I64 most] H K:=by
 refine z0b ⟨fun hc=>k1 ?_,fun hc=>?_⟩
 ·simp only [z94,z8s] at hc; omega
 ·simp only [z92,z8v] at hc;refine h.alm I64 aggV fun mb _ h=>?_
  refine h.al fun hb _ h=>?_
  exact k2 _ _ _ (by omega) h
theorem z1j {next most:Int}(h:SatL H F)(i:Nat)(hA:nth i F=holdC hb mb next most):q1p Tryz.prog 82 #[PA hb 0] H (I64 next):=
 qum ⟨_,h.rd i hA _,rfl,rfl⟩
theorem z1k {first:Int}{ia:Option Addr}{ic:Nat}{items:List Ev}(h:SatL H (holdC hb mb s.next s.most::mapV mb s.rows::F))(ok:s.Ok)(hn:s.next≤1125899906842624)
  (hF:∀H,SatL H F→rdS H ia (flat encV items)) (hlen:items.length≤1000000)
  (k:∀a c H',SatL H' (slA 95 4 a (s.offer first items).2.1.length c (flat encV (s.offer first items).2.1)::holdC hb mb (s.offer first items).1.next s.most::mapV mb (s.offer first items).1.rows::F)→
   K (.tuple #[.slice a (s.offer first items).2.1.length c,I64 (s.offer first items).2.2]) H') :
  CF 145 #[PA hb 0,I64 first,.slice ia items.length ic] H K:=by
 refine qqt ?_;have hm1:=ok.most1;have hm2:=ok.most2;have hn0:=ok.next0;refine⟨fun hc=>?_,fun hc=>?_⟩
 ·simp only [z94,z8s] at hc;have e:s.offer first items=(s,[],(items.length:Int)):=by unfold HS.offer; rw [if_pos hc]
  rw [e] at k;exact k none 0 H (h.sl_nil 95 4)
 ·simp only [z92,z8v] at hc;have e:s.offer first items=({ s with next:=(pop s.next (q2k s.next s.most first items (s.rows,0)).1).2.1,rows:=(pop s.next (q2k s.next s.most first items (s.rows,0)).1).2.2 },
    (pop s.next (q2k s.next s.most first items (s.rows,0)).1).1,(q2k s.next s.most first items (s.rows,0)).2):=by
   unfold HS.offer; rw [if_neg (by omega)]
  rw [e] at k;refine⟨fun refused t25 H'=>∃(j:Nat) (rows:RowL Ev),t25=j∧j≤items.length∧q41 s.next s.next s.most rows∧0≤refused∧refused≤j∧
   q2k s.next s.most (first+j) (items.drop j) (rows,refused)=q2k s.next s.most first items (s.rows,0)∧SatL H' (holdC hb mb s.next s.most::mapV mb rows::F),
   fun _ i _=>items.length - i.toNat,⟨0,s.rows,rfl,z9i _,ok.rows.weaken (by omega) (z99 _),z99 _,by simp,by simp,h⟩,?_⟩
  rintro refused t25 H1 ⟨j,rows,rfl,hj,hok,hr0,hr1,hoff,h⟩;refine⟨fun hc2=>?_,fun hc2=>?_⟩
  ·have hlt:j < items.length:=by simpa using hc2
   have hrd:=hF H1 h.tl.tl;have e1:i64.wrap (first+j)=first+j:=w64;have e2:i64.wrap (s.next+s.most)=s.next+s.most:=w64;have e3:i64.wrap ((j:Int)+1)=((j+1:Nat):Int):=w64;have e4:i64.wrap (refused+1)=refused+1:=w64;have hdrop:items.drop j=items[j]::items.drop (j+1):=za1 hlt;rw [hdrop,q2k] at hoff;have hok2:=qqb (n:=first+j) (v:=items[j]) (s:=(rows,refused)) hok;have hre:=qzw (next:=s.next) (most:=s.most) (n:=first+j) (v:=items[j]) (s:=(rows,refused)) hr0;rw [e1];refine⟨⟨by omega,by omega⟩,_,_,hrd.some q0u (by omega) hlt,_,_,_,_,_,_,hrd.els q0u hlt,?_⟩
   repeat (first|refine h.al fun _ _ h=>?_|refine q01 ?_|refine⟨fun _=>trivial,?_⟩|refine⟨_,Ra1,?_⟩|refine St1 h fun _ h=>?_|refine⟨_,fun _=>Ra1,?_⟩)
   have close:∀H2 (A B M:Assn),M=mapV mb (q23 s.next s.most (first+j) items[j] (rows,refused)).1→SatL H2 (A::B::holdC hb mb s.next s.most::M::F)→
     ∃(j':Nat) (rows':RowL Ev),((j+1:Nat):Int)=j'∧j'≤items.length∧q41 s.next s.next s.most rows'∧0≤(q23 s.next s.most (first+j) items[j] (rows,refused)).2∧(q23 s.next s.most (first+j) items[j] (rows,refused)).2≤j'∧
     q2k s.next s.most (first+j') (items.drop j') (rows',(q23 s.next s.most (first+j) items[j] (rows,refused)).2)=q2k s.next s.most first items (s.rows,0)∧SatL H2 (holdC hb mb s.next s.most::mapV mb rows'::F):=
    fun H2 _ _ _ hM h2=>⟨j+1,_,rfl,hlt,hok2,by simp only at hre; omega,by simp only at hre; omega,by rw [← hoff]; congr 1; omega,by rw [← hM]; exact h2.tl.tl⟩
   refine⟨_,h.r 1,?_⟩;have hgt:=h.mp_get qvh ko2 2 rfl (x:=first+j);refine⟨_,_,_,_,_,_,_,hgt,?_⟩
   repeat (first|refine h.al fun _ _ h=>?_|refine q01 ?_|refine⟨fun _=>trivial,?_⟩|refine⟨_,Ra3,?_⟩|refine St3 h fun _ h=>?_|refine⟨_,fun _=>Ra3,?_⟩)
   refine fun Jn hJ=>⟨fun hc3=>hJ _ _ ?_,fun hc3=>?_⟩
   ·have eo:q23 s.next s.most (first+j) items[j] (rows,refused)=(rows,refused):=by
     unfold q23;rw [if_pos];simp only [z94,z8s] at hc3;exact hc3
    rw [eo] at close;rw [e3]; exact⟨close _ _ _ _ rfl h,by simp only [z8x]; omega⟩
   ·simp only [z92,z8v] at hc3;have hl:q09 (first+j) rows=none:=by
     cases hm:q09 (first+j) rows with
     | none=>rfl
     | some u=>rw [hm] at hc3; exact absurd hc3.2 (by simp)
    repeat (first|refine h.al fun _ _ h=>?_|refine q01 ?_|refine⟨fun _=>trivial,?_⟩|refine⟨_,Ra3,?_⟩|refine St3 h fun _ h=>?_|refine⟨_,fun _=>Ra3,?_⟩)
    dsimp only;rw [e2,e4];refine fun Jn1 hJ1=>⟨fun hc4=>hJ1 _ _ ?_,fun hc4=>?_⟩
    ·simp only [z8s] at hc4;have eo:q23 s.next s.most (first+j) items[j] (rows,refused)=(rows,refused+1):=by unfold q23; rw [if_neg (by simp [hl]; omega),if_pos hc4]
     rw [eo] at close;refine hJ _ _ ?_;rw [e3]; exact⟨close _ _ _ _ rfl h,by simp only [z8x]; omega⟩
    ·simp only [z8v] at hc4;have eo:q23 s.next s.most (first+j) items[j] (rows,refused)=(ins (first+j) items[j] rows,refused):=by unfold q23; rw [if_neg (by simp [hl]; omega),if_neg hc4]
     rw [eo] at close
     repeat (first|refine h.al fun _ _ h=>?_|refine q01 ?_|refine⟨fun _=>trivial,?_⟩|refine⟨_,Ra3,?_⟩|refine St3 h fun _ h=>?_|refine⟨_,_,_,_,_,_,Rs3,?_⟩|refine⟨_,fun _=>Ra3,?_⟩|refine⟨_,_,_,_,_,_,fun _=>Rs3,?_⟩)
     refine h.mp_update (x:=first+j) (v:=items[j]) qvh ko2 3 rfl fun H2 h2=>hJ1 _ _ ?_
     refine hJ _ _ ?_;have ep:mapV mb (mset (first+j) items[j] rows)=mapV mb (ins (first+j) items[j] rows):=q6m (by rw [mset,q10 hl]; exact (qne _ _ _).symm);rw [e3]; exact⟨close _ _ _ _ ep h2,by simp only [z8x]; omega⟩
  ·have hge:j=items.length:=by
    have:¬((j:Int) < (items.length:Int)):=by simpa using hc2
    omega
   subst hge;simp only [zal,q2k] at hoff;rw [← hoff] at k;simp only at k;have hps:=qh4 hok.rising fun p hp=>(hok.inb p hp).1
   have hlen2:=hok.length;refine⟨fun ra rn rc rf H'=>∃(got:List Ev) (next:Int) (rows':RowL Ev),rn=got.length∧rf=refused∧q3v rows'∧(∀p∈rows',next≤p.1)∧(pop s.next rows).1=got++(pop next rows').1∧(pop s.next rows).2=(pop next rows').2∧
    0≤next∧next+rows'.length≤s.next+rows.length∧got.length+rows'.length=rows.length∧SatL H' (slA 95 4 ra rn rc (flat encV got)::holdC hb mb next s.most::mapV mb rows'::F),
    fun _ n _ _ _=>rows.length - n,⟨[],s.next,rows,rfl,rfl,hok.rising,fun p hp=>(hok.inb p hp).1,by simp,by simp,by omega,by omega,by simp,h.sl_nil 95 4⟩,?_⟩
   rintro ra rn rc rf H2 ⟨got,next,rows',rfl,rfl,hri,hge,hp1,hp2,hn1,hn2,hgl,h⟩;refine⟨_,h.r 1,_,h.r 1,?_⟩;have hml:=qzx (next:=next) hri hge;have e5:i64.wrap (next+1)=next+1:=w64;refine⟨_,_,_,_,_,_,_,h.mp_get qvh ko2 2 rfl (x:=next),?_⟩;refine h.al fun b3 _ h=>?_
   refine⟨h.mp_get qvh ko2 3 rfl (x:=next),h.r 2,h.r 2,?_⟩;refine h.st 0 rfl rfl fun H3 h=>?_
   cases rows' with
   | nil=>
    simp only at hml;refine⟨fun _=>?_,fun hc3=>by simp [hml] at hc3⟩
    simp only [pop,z9o] at hp1 hp2;rw [hp1,hp2] at k;exact k _ _ _ h.tl
   | cons p r=>
    obtain⟨n,v⟩:=p;simp only at hml
    by_cases en:n=next
    ·subst en;rw [if_pos rfl] at hml;rw [hml] at h ⊢;refine⟨fun hc3=>by simp at hc3,fun _=>?_⟩
     refine⟨_,h.r 2,_,h.r 2,?_⟩;refine h.mp_delete (x:=n) qvh ko2 3 rfl fun H3 h=>?_
     have h:SatL H3 (cellsA b3 (encV v) 95::slA 95 4 ra got.length rc (flat encV got)::holdC hb mb n s.most::mapV mb (mdel n ((n,v)::r))::F):=h;rw [z4v hri] at h;simp only [z8w] at hn2 hgl;refine⟨_,_,_,_,_,_,h.q 0,?_⟩;rintro b4 _ rfl rfl;refine h.append1 sl44 1 rfl (by rfl) (by rfl) (by omega) (by omega) fun a' c' H4 h=>⟨_,_,_,rfl,?_⟩
     refine⟨_,h.r 2,?_⟩;refine h.st 2 rfl rfl fun H5 h=>?_
     refine⟨?_,by show rows.length - (got.length+1) < rows.length - got.length; omega⟩;rw [e5] at h;simp only [pop,if_true] at hp1 hp2;refine⟨got++[v],n+1,r,by simp,rfl,(zae.1 hri).2,fun p hp=>?_,by rw [hp1]; simp,hp2,by omega,by omega,by simp; omega,?_⟩
     ·have:=(zae.1 hri).1 p hp; simp only at this; omega
     ·rw [q0k,q7d]; exact h.tl
    ·rw [if_neg en] at hml;refine⟨fun _=>?_,fun hc3=>by simp [hml] at hc3⟩
     simp only [pop,if_neg en,z9o] at hp1 hp2;rw [hp1,hp2] at k;exact k _ _ _ h.tl
theorem qgd {next most:Int}{rows:RowL Ev}(h:SatL H (holdC hb mb next most::mapV mb rows::F))(hr:q3v rows)(hw:∀p∈rows,wf64 p.1)(hl:rows.length≤1000000)
  (k:∀a c H',SatL H' (slA 2 1 a rows.length c ((q00 rows).map I64)::holdC hb mb next most::mapV mb rows::F)→K (.slice a rows.length c) H') :
  CF 83 #[PA hb 0] H K:=by
 refine qkm ⟨_,h.r 0,?_⟩;refine z0g ⟨_,_,rfl,?_⟩;refine qr3 h 1 rfl (fun x hx=>by obtain⟨p,hp,rfl⟩:=z8y.1 hx; exact hw p hp) (by omega) fun a c H' h2 g=>⟨_,_,_,rfl,?_⟩
 rw [qzy hr] at h2;exact k a c H' h2
theorem z1l {next most:Int}{rows:RowL Ev}(h:SatL H (holdC hb mb next most::mapV mb rows::F))(hr:q3v rows)(hw:∀p∈rows,wf64 p.1)(hl:rows.length≤1000000)
  (k:∀a c H',SatL H' (slA 95 4 a rows.length c (flat encV (rows.map (·.2)))::holdC hb mb next most::mapV mb []::F)→K (.slice a rows.length c) H') :
  CF 126 #[PA hb 0] H K:=by
 refine qqx ?_;refine qgd h hr hw hl fun ra rc H1 h=>⟨_,_,_,rfl,?_⟩
 refine⟨fun la ln lc i H'=>∃k:Nat,i=k∧k=ln∧k≤rows.length∧SatL H' (slA 95 4 la k lc (flat encV ((rows.take k).map (·.2)))::slA 2 1 ra rows.length rc ((q00 rows).map I64)::holdC hb mb next most::mapV mb rows::F),
  fun _ _ _ i _=>rows.length - i.toNat,⟨0,rfl,rfl,z9i _,h.sl_nil 95 4⟩,?_⟩
 rintro la ln lc i H2 ⟨j,rfl,rfl,hj,h⟩;refine⟨fun hc=>?_,fun hc=>?_⟩
 ·have hlt:j < rows.length:=by simpa using hc
  have hltk:j < (q00 rows).length:=by simpa [q00] using hlt
  have hrd:=(h.sl_rd 1 rfl).at (j:=j) hltk;have e3:i64.wrap ((j:Int)+1)=((j+1:Nat):Int):=w64;have hml:q09 (q00 rows)[j] rows=some rows[j].2:=q2a (qqa hr) (by
   have:((q00 rows)[j],rows[j].2)=rows[j]:=by simp [q00]
   rw [this]; exact z90 _)
  have hg:=h.mp_get1 qvh ko2 3 rfl (x:=(q00 rows)[j]);rw [hml] at hg;refine⟨⟨by omega,by omega⟩,_,_,hrd.1,_,hrd.2,_,h.r 2,_,_,_,_,_,_,hg,?_⟩;rintro b1 _ rfl rfl;refine h.append1 sl44 0 rfl (by rfl) (by rfl) (by omega) (by omega) fun a' c' H3 h=>⟨_,_,_,rfl,?_⟩
  rw [e3];refine⟨⟨j+1,rfl,rfl,hlt,?_⟩,by simp only [z8x]; omega⟩;rw [z9x hlt,z9h,q0k];exact h
 ·have:j=rows.length:=by
   have:¬((j:Int) < rows.length):=by simpa using hc
   omega
  subst this;refine⟨_,h.r 2,?_⟩;refine h.mp_clear qvh 3 rfl fun H3 h=>?_
  rw [z9d (z8z _)] at h;exact k _ _ _ (h.o [0,2,3] 4)
theorem qvi {next most:Int}{rows:RowL Ev}(h:SatL H (holdC hb mb next most::mapV mb rows::F))
  (k:∀hb' mb' H',SatL H' (holdC hb' mb' next most::mapV mb' rows::holdC hb mb next most::mapV mb rows::F)→K (PA hb' 0) H') :
  CF 90 #[PA hb 0] H K:=by
 refine qr0 ?_;refine⟨_,h.r 0,_,h.r 0,_,h.r 0,?_⟩;refine qur h 1 rfl fun H1 h _=>⟨_,rfl,h.r 1,h.r 1,?_⟩
 refine h.al fun b _ h=>?_
 exact k _ _ _ h
end
end Go.Proofs.YtfmkddccnjidmaaGreatDoor
namespace Go.Nm
theorem q7g (k:IntKind)(f:Nat→Int):∀n i,(vecL k f n i).length=n
 | 0,_=>rfl
 | n+1,i=>by simp [vecL,q7g k f n]
theorem qdy (k:IntKind)(f:Nat→Int):∀n i j,j < n→lget (vecL k f n i) j=some (.int k (f (i+j)))
 | n+1,i,0,_=>rfl
 | n+1,i,j+1,h=>by
  have:=qdy k f n (i+1) j (by omega);simp only [vecL,lget];rw [this,show i+1+j=i+(j+1) by omega]
theorem qlu (k:IntKind)(f:Nat→Int):∀n i,q08 (vecL k f n i)=true
 | 0,_=>rfl
 | n+1,i=>by
  have:=qlu k f n (i+1);simpa [vecL,q08] using this
def updN (f:Nat→Int)(j:Nat)(x:Int):Nat→Int:=fun i=>if i=j then x else f i
theorem qlv (k:IntKind){f g:Nat→Int}:∀n i,(∀j,i≤j→j < i+n→f j=g j)→vecL k f n i=vecL k g n i
 | 0,_,_=>rfl
 | n+1,i,h=>by
  simp only [vecL];rw [h i (z8z _) (by omega),qlv k n (i+1) fun j h1 h2=>h j (by omega) (by omega)]
theorem qod (k:IntKind)(f:Nat→Int)(x:Int):∀n i j,j < n→(vecL k f n i).set j (.int k x)=vecL k (updN f (i+j) x) n i
 | n+1,i,0,_=>by
  simp only [vecL,zb1,zam];rw [show updN f i x i=x by simp [updN],qlv k (g:=updN f i x) n (i+1) fun j h1 h2=>by simp [updN]; omega]
 | n+1,i,j+1,h=>by
  simp only [vecL,zbg];rw [qod k f x n (i+1) j (by omega),show i+1+j=i+(j+1) by omega];rw [show updN f (i+(j+1)) x i=f i by simp [updN]]
section
variable {H:Heap} {L:List Assn}
theorem SatL.rda {b e:Nat}{cs:List Value}(h:SatL H L)(i:Nat)(hA:nth i L=cellsA b cs e):q03 H b 0 cs:=
 q6o fun f v hf=>by rw [h.rd i hA,z9e]; exact hf
theorem SatL.rdv {b e o:Nat}{l vs r:List Value}(h:SatL H L)(i:Nat)(hA:nth i L=cellsA b (l++vs++r) e)(ho:o=l.length):q03 H b o vs:=
 q6o fun f v hf=>by
  subst ho;rw [h.rd i hA,z91,q4z,q97 (q9s hf)]; exact hf
theorem SatL.rdt {b e o:Nat}{l vs:List Value}(h:SatL H L)(i:Nat)(hA:nth i L=cellsA b (l++vs) e)(ho:o=l.length):q03 H b o vs:=
 SatL.rdv (r:=[]) h i (by rw [hA,z9o]) ho
theorem SatL.sta {Q:Heap→Prop}{b e:Nat}{vs cs:List Value}(h:SatL H L)(i:Nat)(hA:nth i L=cellsA b cs e)(hl:vs.length=cs.length)(k:∀H',SatL H' (put i (cellsA b vs e) L)→Q H') :
  q38 H b 0 vs∧∀H',H'=q46 H b 0 vs→Q H':=by
 refine⟨h.can i hA 0 vs (by omega),?_⟩;rintro H' rfl;have:=h.set i hA 0 vs;rw [qie _ _ hl] at this;exact k _ this
end
theorem z1m {P:Program}{t e:TypeId}{n:Nat}{f:Nat→Int}{i:Int}(ht:P.underlying t=some (.array n e))(hz:∀w,(Go.sizeOf e).run P w=.ok 1 w)(ha:∀w,(Go.isAgg e).run P w=.ok false w)(h0:0≤i)(h1:i < n) :
  q4v P (Instr.index t (.agg ⟨vecL .i64 f n 0⟩) (I64 i)) (I64 (f i.toNat)):=by
 intro w;have hg:=qdy .i64 f n 0 i.toNat (by omega);rw [q14] at hg;simp only [Instr.index,asIntOf,Sem.run_bind,Sem.run_pure,Result.andThen_ok,q07 ht];rw [if_pos ⟨h0,h1⟩];simp only [Sem.run_bind,hz,Result.andThen_ok,zad,part,ha];simp [hg]
abbrev B64:Int:=18446744073709551616
abbrev whi (z:Int):Int:=z / B64
abbrev wlo (z:Int):Int:=z % B64
abbrev aggW (z:Int):Value:=.agg #[I64 (whi z),.int .u64 (wlo z)]
abbrev q6u (z:Int):Prop:=-170141183460469231731687303715884105728≤z∧z < 170141183460469231731687303715884105728
def wadd (a b:Int):Int × Int:=if q6u (a+b) then (a+b,0) else (0,12)
theorem q5s (z:Int):0≤wlo z∧wlo z < B64:=by unfold wlo B64; omega
theorem wz (z:Int):whi z*B64+wlo z=z:=by unfold whi wlo B64; omega
theorem weq {z y:Int}:(whi z=whi y∧wlo z=wlo y)↔z=y:=by
 constructor
 ·rintro⟨h1,h2⟩; rw [← wz z,← wz y,h1,h2]
 ·rintro rfl; exact⟨rfl,rfl⟩
def q0f (v:Int):Int:=if v < 0 then 0 else if v=0 then 1 else 1+(bitLen v.toNat:Nat)
theorem q5t {v:Int}(h:wf64 v):0≤q0f v∧q0f v < 65:=by
 unfold q0f wf64 at *
 split
 ·omega
 ·split
  ·omega
  ·have:bitLen v.toNat≤63:=by
    unfold bitLen
    split
    ·omega
    ·rename_i h0;have:=(Nat.log2_lt h0).2 (show v.toNat < 2 ^ 63 by omega);omega
   omega
def qdz (h:Nat→Int):Bool:=(List.range 65).all fun i=>decide (0≤h i)
theorem q55 {h:Nat→Int}:qdz h=true↔∀i,i < 65→0≤h i:=by
 simp [qdz,z9t]
def addH (h:Nat→Int)(v:Int):(Nat→Int) × Int:=
 if qdz h=false then (Z0,10) else if h (q0f v).toNat=9223372036854775807 then (Z0,12) else (updN h (q0f v).toNat (h (q0f v).toNat+1),0)
def wfH (h:Nat→Int):Prop:=∀i,i < 65→wf64 (h i)
theorem z6b:wfH Z0:=fun _ _=>by unfold wf64; simp
end Go.Nm
namespace Go.Proofs.YtfmkddccnjidmaaGreatDoor
open Go.Nm
section
variable {F L:List Assn} {H:Heap} {K:Value→Heap→Prop}
theorem qry {x y:Int}(hx:0≤x)(hy:0≤y):qho Tryz.prog 198 #[.int .u64 x,.int .u64 y,.int .u64 0] (.tuple #[.int .u64 ((x+y) % B64),.int .u64 ((x+y) / B64)]):=by
 have e:(callFunc 198 #[.int .u64 x,.int .u64 y,.int .u64 0])=(callFunc 198 #[.int .u64 x,.int .u64 y,.int .u64 0]):=rfl;intro w;have h:(callFunc 198 #[.int .u64 x,.int .u64 y,.int .u64 0]).run Tryz.prog w=.ok (.value (.tuple #[.int .u64 (Int.ofNat ((x.toNat+y.toNat+0) % 18446744073709551616)),.int .u64 (Int.ofNat ((x.toNat+y.toNat+0) / 18446744073709551616))])) w:=by kernel_rfl
 rw [h];have e1:Int.ofNat ((x.toNat+y.toNat+0) % 18446744073709551616)=(x+y) % B64:=by unfold B64; simp only [Int.ofNat_eq_natCast]; omega
 have e2:Int.ofNat ((x.toNat+y.toNat+0) / 18446744073709551616)=(x+y) / B64:=by unfold B64; simp only [Int.ofNat_eq_natCast]; omega
 rw [e1,e2]
theorem idx60 {f:Nat→Int}{i:Int}(h0:0≤i)(h1:i < 65):q4v Tryz.prog (Instr.index 60 (.agg ⟨vecL .i64 f 65 0⟩) (I64 i)) (I64 (f i.toNat)):=
 z1m (n:=65) Tryz.underlying60 Tryz.sizeOf2 Tryz.isAgg2 h0 (by omega)
theorem z1n {f:Nat→Int}(h:SatL H F)(k:∀H',SatL H' F→K (.bool (qdz f)) H'):CF 282 #[.agg ⟨vecL .i64 f 65 0⟩] H K:=by
 refine qrg ?_;refine h.al fun b _ h=>?_
 refine⟨f,h.rda 0 rfl,?_⟩;refine⟨fun i H'=>∃j:Nat,i=j∧j≤65∧(∀q,q < j→0≤f q)∧SatL H' F,fun i _=>65 - i.toNat,⟨0,rfl,by omega,fun _ h=>by omega,h.tl⟩,?_⟩
 rintro i H1 ⟨j,rfl,hj,hp,h⟩;refine⟨fun hc=>?_,fun hc=>?_⟩
 ·have hlt:j < 65:=by have:=z8q hc; omega
  refine⟨_,idx60 (by omega) (by omega),?_⟩;rw [z8x];refine⟨fun hn=>?_,fun hn=>?_⟩
  ·have hn:=z8q hn;have:qdz f=false:=by
    rw [zb9];intro hh;have:=q55.1 hh j hlt;omega
   rw [this] at k;exact k _ h
  ·have hn:=z8t hn;rw [show i64.wrap ((j:Int)+1)=((j+1:Nat):Int) by rw [w64]; omega];refine⟨⟨j+1,rfl,hlt,fun q hq=>?_,h⟩,by simp only [z8x]; omega⟩
   rcases z9f q j with h1|h1
   ·exact hp q h1
   ·obtain rfl:q=j:=by omega
    omega
 ·have:j=65:=by have:=z8t hc; omega
  subst this;have:qdz f=true:=q55.2 hp;rw [this] at k;exact k _ h
theorem q1z {v:Int}(hv:wf64 v):q1p Tryz.prog 78 #[I64 v] H (I64 (q0f v)):=by
 refine qo3 ?_;have hb:=q5t hv;unfold q0f at hb ⊢;refine⟨fun hc=>?_,fun hc=>⟨fun hc2=>?_,fun hc2=>?_⟩⟩
 ·rw [if_pos (z8q hc)];exact⟨rfl,rfl⟩
 ·rw [if_neg (z8t hc),if_pos (z8q hc2)];exact⟨rfl,rfl⟩
 ·have h1:=z8t hc;have h2:=z8t hc2;rw [if_neg h1,if_neg h2] at hb ⊢;unfold wf64 at hv;have e:u64.wrap v=((v.toNat:Nat):Int):=by rw [u64e]; omega
  rw [e];refine⟨_,qlo (by omega),?_,rfl⟩;rw [w64 (x:=2+_),w64];congr 1;omega
theorem whi_w {z:Int}(h:q6u z):wf64 (whi z):=by unfold q6u at h; unfold wf64 whi B64; omega
theorem fdiv63 {v:Int}(h:wf64 v):Int.fdiv v (2 ^ (min (Int.toNat 63) (i64.bits)))=whi v:=by
 show Int.fdiv v 9223372036854775808=whi v;rw [zb8 _ (by decide)];unfold wf64 at h;unfold whi B64;omega
theorem qoe {v:Int}(hv:wf64 v)(h:SatL H F)(k:∀H',SatL H' F→K (aggW v) H'):CF 77 #[I64 v] H K:=by
 refine z5p ?_;refine h.al fun b _ h=>⟨by decide,?_⟩
 rw [fdiv63 hv];have e:u64.wrap v=wlo v:=by rw [u64e]
 rw [e]
 repeat (first|refine h.al fun _ _ h=>?_|refine q01 ?_|refine⟨fun _=>trivial,?_⟩|refine⟨_,Ra1,?_⟩|refine St1 h fun _ h=>?_|refine⟨_,_,Rs1,?_⟩|refine⟨_,fun _=>Ra1,?_⟩|refine⟨_,_,fun _=>Rs1,?_⟩)
 exact k _ h.tl
theorem qj6 {x y:Int}(hx:q6u x)(hy:q6u y)(h:SatL H F)(k:∀H',SatL H' F→K (.tuple #[aggW (wadd x y).1,I64 (wadd x y).2]) H') :
  CF 262 #[aggW x,aggW y] H K:=by
 refine z0p ?_;have h1:=q5s x;have h2:=q5s y;have hx':=whi_w hx;have hy':=whi_w hy;have zx:=wz x;have zy:=wz y;have er:(wlo x+wlo y) % B64=wlo (x+y):=by unfold wlo B64; omega
 have eq:i64.wrap ((wlo x+wlo y) / B64)=(wlo x+wlo y) / B64:=by unfold B64 at *; exact w64
 have eh:i64.wrap (i64.wrap (whi x+whi y)+(wlo x+wlo y) / B64)=i64.wrap (whi (x+y)):=by
  rw [i64e,i64e,i64e];unfold whi wlo B64;omega
 refine h.al fun b _ h=>?_
 refine h.al fun b1 _ h=>?_
 refine h.al fun b2 _ h=>?_
 refine⟨_,h.r 2,_,h.r 1,_,_,qry h1.1 h2.1,_,h.r 2,_,h.r 1,_,h.r 2,_,h.r 1,?_⟩;rw [eq,eh,er];have hover:decide (q0i .and .i64 (q0i .xor .i64 (whi x) (i64.wrap (whi (x+y)))) (q0i .xor .i64 (whi y) (i64.wrap (whi (x+y)))) < 0)=!decide (q6u (x+y)):=by
  rw [z9q,z8s,z4z (qdf _ _ _) (qdf _ _ _),z8u,z8s,z8s,qnk hx' (qud _),qnk hy' (qud _),qnj,qnj,z98,z8v];unfold q6u at hx hy ⊢;rw [i64e];unfold whi B64;omega
 dsimp only [ID];rw [hover];unfold wadd at k;refine⟨fun hc=>?_,fun hc=>?_⟩
 ·have:¬q6u (x+y):=z8t (by simpa only [z98] using hc);rw [if_neg this] at k
  repeat (first|refine h.al fun _ _ h=>?_|refine q01 ?_|refine⟨fun _=>trivial,?_⟩|refine⟨_,Ra3,?_⟩|refine St3 h fun _ h=>?_|refine⟨_,_,Rs3,?_⟩|refine⟨_,fun _=>Ra3,?_⟩|refine⟨_,_,fun _=>Rs3,?_⟩)
  exact k _ h.tl.tl.tl
 ·have:q6u (x+y):=z8q (by simpa only [z9r] using hc);rw [if_pos this] at k;have e:i64.wrap (whi (x+y))=whi (x+y):=by have:=whi_w this; unfold wf64 at this; exact w64
  rw [e]
  repeat (first|refine h.al fun _ _ h=>?_|refine q01 ?_|refine⟨fun _=>trivial,?_⟩|refine⟨_,Ra3,?_⟩|refine St3 h fun _ h=>?_|refine⟨_,_,Rs3,?_⟩|refine⟨_,fun _=>Ra3,?_⟩|refine⟨_,_,fun _=>Rs3,?_⟩)
  exact k _ h.tl.tl.tl
end
end Go.Proofs.YtfmkddccnjidmaaGreatDoor
namespace Go.Nm
theorem sum_append (l r:List Int):(l++r).sum=l.sum+r.sum:=by
 induction l with
 | nil=>simp
 | cons a l ih=>simp only [zat,List.sum_cons,ih]; omega
theorem qe0 {l:List Int}{j:Nat}(h:j < l.length):(l.take (j+1)).sum=(l.take j).sum+l[j]:=by
 rw [z9x h,sum_append]; simp
theorem qrz:∀{l:List Int},(∀x∈l,wf64 x)→-(9223372036854775808*(l.length:Int))≤l.sum∧l.sum≤9223372036854775808*(l.length:Int)
 | [],_=>by simp
 | a::l,h=>by
  have h1:=h a z95;have h2:=qrz (l:=l) fun x hx=>h x (z96 _ hx)
  unfold wf64 at h1;simp only [List.sum_cons,z8w];omega
theorem wstep {s v:Int}(hs:q6u s)(hv:wf64 v)(ht:q6u (s+v)) :
  i64.wrap (i64.wrap (whi s+whi v)+i64.wrap ((wlo s+wlo v) / B64))=whi (s+v)∧(wlo s+wlo v) % B64=wlo (s+v):=by
 have h1:=q5s s;have h2:=q5s v;have zx:=wz s;have zy:=wz v;refine⟨?_,by unfold wlo B64; omega⟩;have eq:i64.wrap ((wlo s+wlo v) / B64)=(wlo s+wlo v) / B64:=by unfold B64 at *; exact w64
 rw [eq];have hw:wf64 (whi (s+v)):=by unfold q6u at ht; unfold wf64 whi B64; omega
 have eh:i64.wrap (i64.wrap (whi s+whi v)+(wlo s+wlo v) / B64)=i64.wrap (whi (s+v)):=by
  rw [i64e,i64e,i64e];unfold whi wlo B64;omega
 rw [eh];unfold wf64 at hw;exact w64
def rowH (h:Nat→Int):List Int:=(List.range 65).map h
def sumC (h:Nat→Int):Int:=(rowH h).sum
theorem vecL_map (f:Nat→Int)(n i:Nat):vecL .i64 f n i=((List.range n).map fun j=>f (i+j)).map I64:=by
 induction n generalizing i with
 | zero=>rfl
 | succ n ih=>
  rw [vecL,ih,List.range_succ_eq_map];simp only [z9m,z9s,zam];congr 1;apply zan;intro j _;show I64 (f (i+1+j))=I64 (f (i+(j+1)));rw [show i+1+j=i+(j+1) by omega]
theorem vecL_row (f:Nat→Int):vecL .i64 f 65 0=(rowH f).map I64:=by
 rw [vecL_map]; simp [rowH]
theorem rowH_len (f:Nat→Int):(rowH f).length=65:=by simp [rowH]
theorem rowH_mem {f:Nat→Int}{x:Int}(h:x∈rowH f):∃i,i < 65∧x=f i:=by
 obtain⟨i,hi,rfl⟩:=z8y.1 h;exact⟨i,za7.1 hi,rfl⟩
structure Cl where
 n:Int
 sum:Int
 mn:Int
 mx:Int
 cer:Int
 pos:Int
 h:Nat→Int
def Cl.z:Cl:=⟨0,0,0,0,0,0,Z0⟩
abbrev encC (c:Cl):List Value:=[I64 c.n,I64 (whi c.sum),.int .u64 (wlo c.sum),I64 c.mn,I64 c.mx,I64 c.cer,I64 c.pos]++vecL .i64 c.h 65 0
abbrev aggC (c:Cl):Value:=.agg ⟨encC c⟩
theorem q2d (c:Cl):(encC c).length=72:=by simp [encC,q7g]
structure WC (c:Cl):Prop where
 n:wf64 c.n
 sum:q6u c.sum
 mn:wf64 c.mn
 mx:wf64 c.mx
 cer:wf64 c.cer
 pos:wf64 c.pos
 h:wfH c.h
theorem WC.z:WC Cl.z:=⟨by decide,by decide,by decide,by decide,by decide,by decide,z6b⟩
def inB (c:Cl):Bool:=(List.range 65).all fun i=>decide (c.h i=0) || decide (q0f c.mn≤i∧(i:Int)≤q0f c.mx)
def q3g (c:Cl):Bool:=
 !(decide (c.n < 0) || decide (c.cer < 0) || decide (c.pos < 0) || decide (c.mx < c.mn)) && qdz c.h && decide (sumC c.h=c.n) &&
 (if c.n=0 then decide (c.sum=0) && decide (c.mn=0) && decide (c.mx=0)
  else !(decide (c.h (q0f c.mn).toNat=0) || decide (c.h (q0f c.mx).toNat=0)) && inB c)
def q60 (c:Cl)(certain:Bool):Cl × Int:=
 if q3g c=false then (Cl.z,10) else
 if certain then (if c.cer=9223372036854775807 then (Cl.z,12) else ({ c with cer:=c.cer+1 },0))
 else (if c.pos=9223372036854775807 then (Cl.z,12) else ({ c with pos:=c.pos+1 },0))
def addC (c:Cl)(v:Int):Cl × Int:=
 if q3g c=false then (Cl.z,10) else
 if (addS c.n 1).2≠0 then (Cl.z,12) else
 if (wadd c.sum v).2≠0 then (Cl.z,12) else
 if (addH c.h v).2≠0 then (Cl.z,12) else
 let mn:=if c.n=0 then v else c.mn
 let mx:=if c.n=0 then v else c.mx
 ({ c with n:=(addS c.n 1).1,sum:=(wadd c.sum v).1,h:=(addH c.h v).1,mn:=if v < mn then v else mn,mx:=if v > mx then v else mx },0)
theorem qxw {c:Cl}(h:WC c)(b:Bool):WC (q60 c b).1:=by
 unfold q60;have h5:=h.cer;have h6:=h.pos;unfold wf64 at h5 h6
 split
 ·exact WC.z
 ·split
  ·split
   ·exact WC.z
   ·exact⟨h.n,h.sum,h.mn,h.mx,by unfold wf64; dsimp only; omega,h.pos,h.h⟩
  ·split
   ·exact WC.z
   ·exact⟨h.n,h.sum,h.mn,h.mx,h.cer,by unfold wf64; dsimp only; omega,h.h⟩
theorem addS_wf (a b:Int):wf64 (addS a b).1:=by
 unfold addS
 split
 ·assumption
 ·decide
theorem wadd_wf (a b:Int):q6u (wadd a b).1:=by
 unfold wadd
 split
 ·assumption
 ·decide
theorem addH_wf {h:Nat→Int}(hh:wfH h){v:Int}(hv:wf64 v):wfH (addH h v).1:=by
 unfold addH
 split
 ·exact z6b
 ·split
  ·exact z6b
  ·intro i hi;dsimp only [updN]
   split
   ·rename_i h1 h2 h3;subst h3;have:=hh _ hi;unfold wf64 at *;omega
   ·exact hh i hi
theorem addC_wf {c:Cl}(h:WC c){v:Int}(hv:wf64 v):WC (addC c v).1:=by
 unfold addC
 split
 ·exact WC.z
 ·split
  ·exact WC.z
  ·split
   ·exact WC.z
   ·split
    ·exact WC.z
    ·refine⟨addS_wf _ _,wadd_wf _ _,?_,?_,h.cer,h.pos,addH_wf h.h hv⟩
     ·dsimp only;have:=h.mn
      split <;> split <;> assumption
     ·dsimp only;have:=h.mx
      split <;> split <;> assumption
end Go.Nm
namespace Go.Proofs.YtfmkddccnjidmaaGreatDoor
open Go.Nm
section
variable {F L:List Assn} {H:Heap} {K:Value→Heap→Prop}
theorem z6c {a:Option Addr}{n c:Nat}{vs:List Int}(hn:vs.length=n)(h:SatL H F)(ha:∀H,SatL H F→rdS H a (vs.map I64))(hv:∀x∈vs,wf64 x)(hl:n≤1000000)
  (k:∀H',SatL H' F→K (aggW vs.sum) H'):CF 151 #[.slice a n c] H K:=by
 subst hn;refine z0r ?_;refine h.al fun b _ h=>?_
 refine h.al fun b1 _ h=>?_
 refine⟨fun i H'=>∃j:Nat,i=j∧j≤vs.length∧SatL H' (cellsA b1 [I64 (whi (vs.take j).sum),.int .u64 (wlo (vs.take j).sum)] 58::cellsA b [I64 0,.int .u64 0] 58::F),fun i _=>vs.length - i.toNat,⟨0,rfl,z9i _,h⟩,?_⟩
 rintro i H1 ⟨j,rfl,hj,h⟩;have bnd:∀q,q6u (vs.take q).sum:=fun q=>by
  have:=qrz (l:=vs.take q) fun x hx=>hv x (zax hx)
  rw [z9b] at this;unfold q6u;omega
 refine⟨fun hc=>?_,fun hc=>?_⟩
 ·have hlt:j < vs.length:=by have:=z8q hc; omega
  have hr:=(ha _ h.tl.tl).at hlt;have hvj:=hv _ (z90 hlt);have hb2:=bnd (j+1);rw [qe0 hlt] at hb2;have hst:=wstep (bnd j) hvj hb2;rw [← qe0 hlt] at hst;have eu:u64.wrap vs[j]=wlo vs[j]:=by rw [u64e]
  refine⟨⟨by omega,by omega⟩,_,_,hr.1,_,hr.2,_,h.r 0,?_⟩;rw [eu];refine⟨_,_,qry (q5s _).1 (q5s _).1,_,h.r 0,by decide,?_⟩;rw [fdiv63 hvj,hst.1,hst.2];refine h.sta 0 rfl rfl fun H2 h=>?_
  rw [show i64.wrap ((j:Int)+1)=((j+1:Nat):Int) by rw [w64]; omega];exact⟨⟨j+1,rfl,hlt,h⟩,by simp only [z8x]; omega⟩
 ·have:j=vs.length:=by have:=z8t hc; omega
  subst this;rw [z9d (z8z _)] at h
  repeat (first|refine h.al fun _ _ h=>?_|refine q01 ?_|refine⟨fun _=>trivial,?_⟩|refine⟨_,Ra2,?_⟩|refine St2 h fun _ h=>?_|refine⟨_,_,Rs2,?_⟩|refine⟨_,fun _=>Ra2,?_⟩|refine⟨_,_,fun _=>Rs2,?_⟩)
  exact k _ h.tl.tl
theorem z1o {f:Nat→Int}(hf:wfH f)(h:SatL H F)(k:∀H',SatL H' F→K (aggW (sumC f)) H'):CF 76 #[.agg ⟨vecL .i64 f 65 0⟩] H K:=by
 refine qrl ?_;refine h.al fun b _ h=>?_
 refine h.al fun b1 _ h=>⟨by decide,?_⟩
 have e0:slB (some ⟨b,0,none⟩) 0 65 1=some ⟨b,0,none⟩:=rfl;rw [e0];refine z6c (vs:=rowH f) (rowH_len f) h (fun H h=>?_) (fun x hx=>?_) (by decide) fun H2 h=>⟨_,_,rfl,?_⟩
 ·have:=h.ce_rd 1 rfl;dsimp only [q4j] at this;rw [vecL_row] at this;exact this
 ·obtain⟨i,hi,rfl⟩:=rowH_mem hx;exact hf i hi
 ·refine h.sta 0 rfl rfl fun H3 h=>⟨_,_,h.rda 0 rfl,?_⟩
  exact k _ h.tl.tl
theorem qs0 {f:Nat→Int}(h:SatL H F)(k:∀b H',SatL H' (cellsA b (vecL .i64 f 65 0) 60::F)→K (.func (.func 153) #[] #[PA b 0]) H'):CF 79 #[.agg ⟨vecL .i64 f 65 0⟩] H K:=by
 refine qv4 ?_;exact h.al fun b _ h=>k _ _ h
theorem qlw {l b:Nat}{f:Nat→Int}(A:Nat→Assn)(Ax:Assn)(h:SatL H (A 0::cellsA b (vecL .i64 f 65 0) 60::F))
  (hz:∀j,j < 65→f j=0→A j=A (j+1))
  (hy:∀j,j < 65→f j≠0→∀(G:List Assn) (H1:Heap) (K1:Value→Heap→Prop),SatL H1 (A j::G)→(∀H2,SatL H2 (A (j+1)::G)→K1 (.bool true) H2)→(∀H2,SatL H2 (Ax::G)→K1 (.bool false) H2)→
   q44 Tryz.prog l [I64 (j:Nat),I64 (f j)] H1 K1)
  (k:∀H',SatL H' (A 65::cellsA b (vecL .i64 f 65 0) 60::F)→K (.tuple #[]) H')
  (kx:∀H',SatL H' (Ax::cellsA b (vecL .i64 f 65 0) 60::F)→K (.tuple #[]) H') :
  CF 153 #[.func (.yield l) #[] #[],PA b 0] H K:=by
 refine qo0 ?_;refine⟨f,h.rda 1 rfl,?_⟩;refine⟨fun i H'=>∃j:Nat,i=j∧j≤65∧SatL H' (A j::cellsA b (vecL .i64 f 65 0) 60::F),fun i _=>65 - i.toNat,⟨0,rfl,by omega,h⟩,?_⟩
 rintro i H1 ⟨j,rfl,hj,h⟩;refine⟨fun hc=>?_,fun hc=>?_⟩
 ·have hlt:j < 65:=by have:=z8q hc; omega
  refine⟨_,idx60 (by omega) (by omega),?_⟩;rw [z8x];have nxt:∀H2,SatL H2 (A (j+1)::cellsA b (vecL .i64 f 65 0) 60::F)→(∃j':Nat,i64.wrap ((j:Int)+1)=j'∧j'≤65∧SatL H2 (A j'::cellsA b (vecL .i64 f 65 0) 60::F))∧65 - (i64.wrap ((j:Int)+1)).toNat < 65 - ((j:Int)).toNat:=by
   intro H2 h;rw [show i64.wrap ((j:Int)+1)=((j+1:Nat):Int) by rw [w64]; omega];exact⟨⟨j+1,rfl,hlt,h⟩,by simp only [z8x]; omega⟩
  refine fun Jn hJ=>⟨fun hn=>?_,fun hn=>?_⟩
  ·have hne:f j≠0:=by simpa using hn
   refine hy j hlt hne _ _ _ h (fun H2 h=>⟨true,rfl,hJ _ _ ?_⟩) (fun H2 h=>⟨false,rfl,hJ _ _ ?_⟩)
   ·skip
    exact⟨fun hf=>by simp at hf,fun _=>nxt _ h⟩
   ·skip
    exact⟨fun _=>kx _ h,fun hf=>by simp at hf⟩
  ·have he:f j=0:=by simpa using hn
   refine hJ _ _ ?_;rw [hz j hlt he] at h;exact⟨fun hf=>by simp at hf,fun _=>nxt _ h⟩
 ·have:j=65:=by have:=z8t hc; omega
  subst this;exact k _ h
end
end Go.Proofs.YtfmkddccnjidmaaGreatDoor
namespace Go.Nm
theorem qxx (c:Cl){j:Nat}(hj:j < 65):lget (encC c) (7+j)=some (I64 (c.h j)):=by
 refine (q4z (l:=[I64 c.n,I64 (whi c.sum),.int .u64 (wlo c.sum),I64 c.mn,I64 c.mx,I64 c.cer,I64 c.pos]) j).trans ?_;rw [qdy _ _ _ _ _ hj,z9e]
end Go.Nm
namespace Go.Proofs.YtfmkddccnjidmaaGreatDoor
open Go.Nm
section
variable {F L:List Assn} {H:Heap} {K:Value→Heap→Prop}
theorem eqW (x y:Int):q5w Tryz.prog .neq 58 (aggW x) (aggW y) (!decide (x=y))∧q5w Tryz.prog .eql 58 (aggW x) (aggW y) (decide (x=y)):=by
 have h:=qb7 (P:=Tryz.prog) (t:=58) (xs:=[I64 (whi x),.int .u64 (wlo x)]) (ys:=[I64 (whi y),.int .u64 (wlo y)]) (r:=(whi x == whi y && (wlo x == wlo y && true))) (by kernel_rfl);have e:(whi x == whi y && (wlo x == wlo y && true))=decide (x=y):=by
  rw [z9q];simp only [Bool.and_true,z8u,beq_iff_eq,z8s];exact weq
 rw [e] at h;exact⟨h.2,h.1⟩
set_option maxHeartbeats 1000000 in
theorem q56 {c:Cl}(wc:WC c)(h:SatL H F)(k:∀H',SatL H' F→K (.bool (q3g c)) H'):CF 25 #[aggC c] H K:=by
 refine qrm ?_;unfold q3g at k;refine h.al fun b _ h=>?_
 refine h.al fun b1 _ h=>?_
 refine⟨_,h.r 1,_,fun _=>h.r 1,_,fun _=>h.r 1,_,fun _=>h.r 1,_,fun _=>h.r 1,fun hc=>?_,fun hc=>?_⟩
 ·rw [hc] at k;refine h.sta 0 rfl rfl fun H2 h=>⟨_,h.r 0,?_⟩
  exact k _ h.tl.tl
 rw [hc] at k;refine⟨c.h,h.rdt (l:=[_,_,_,_,_,_,_]) 1 rfl rfl,?_⟩;refine⟨fun i H'=>∃j:Nat,i=j∧j≤65∧(∀q,q < j→0≤c.h q)∧SatL H' (cellsA b1 [.bool false] 4::cellsA b (encC c) 62::F),fun i _=>65 - i.toNat,⟨0,rfl,by omega,fun _ h=>by omega,h⟩,?_⟩
 rintro i H1 ⟨j,rfl,hj,hp,h⟩;refine⟨fun hc2=>?_,fun hc2=>?_⟩
 ·have hlt:j < 65:=by have:=z8q hc2; omega
  refine⟨_,idx60 (by omega) (by omega),?_⟩;rw [z8x];refine⟨fun hn=>?_,fun hn=>?_⟩
  ·have hn:=z8q hn;have:qdz c.h=false:=by
    rw [zb9];intro hh;have:=q55.1 hh j hlt;omega
   rw [this] at k;refine h.sta 0 rfl rfl fun H2 h=>⟨_,h.r 0,?_⟩
   exact k _ h.tl.tl
  ·have hn:=z8t hn;rw [show i64.wrap ((j:Int)+1)=((j+1:Nat):Int) by rw [w64]; omega];refine⟨⟨j+1,rfl,hlt,fun q hq=>?_,h⟩,by simp only [z8x]; omega⟩
   rcases z9f q j with h1|h1
   ·exact hp q h1
   ·obtain rfl:q=j:=by omega
    omega
 ·have hj65:j=65:=by have:=z8t hc2; omega
  subst hj65;have hv:qdz c.h=true:=q55.2 hp;rw [hv] at k;refine⟨c.h,h.rdt (l:=[_,_,_,_,_,_,_]) 1 rfl rfl,_,h.r 1,?_⟩;refine z1o wc.h h fun H2 h=>⟨_,_,rfl,h.r 1,?_⟩
  refine qoe wc.n h fun H3 h=>⟨_,_,rfl,_,(eqW _ _).1,fun hc3=>?_,fun hc3=>?_⟩
  ·have:decide (sumC c.h=c.n)=false:=by simpa using hc3
   rw [this] at k;refine h.sta 0 rfl rfl fun H2 h=>⟨_,h.r 0,?_⟩
   exact k _ h.tl.tl
  have hs:decide (sumC c.h=c.n)=true:=by simpa using hc3
  rw [hs] at k;simp only [Bool.not_false,Bool.true_and] at k;refine⟨_,h.r 1,fun hc4=>?_,fun hc4=>?_⟩
  ·rw [if_pos (z8q hc4)] at k;have e0:=(eqW c.sum 0).2;refine⟨_,_,h.rdv (l:=[_]) (vs:=[_,_]) 1 rfl rfl,_,e0,_,fun _=>h.r 1,_,fun _=>h.r 1,?_⟩
   refine h.sta 0 rfl rfl fun H2 h=>⟨_,h.r 0,?_⟩
   exact k _ h.tl.tl
  ·rw [if_neg (z8t hc4)] at k;have bl:=q5t wc.mn;have bh:=q5t wc.mx;intro Jn hJ;have fin:∀lb hb H4,SatL H4 (cellsA lb [I64 (q0f c.mn)] 3::cellsA hb [I64 (q0f c.mx)] 3::cellsA b1 [.bool false] 4::cellsA b (encC c) 62::F)→Jn lb 0 hb 0 H4:=by
    intro lb hb H4 h;refine hJ _ _ _ _ _ ?_;have g1:q02 H4 b (7+(q0f c.mn).toNat)=some (I64 (c.h (q0f c.mn).toNat)):=by rw [h.rd 3 rfl]; exact qxx c (by omega)
    have g2:q02 H4 b (7+(q0f c.mx).toNat)=some (I64 (c.h (q0f c.mx).toNat)):=by rw [h.rd 3 rfl]; exact qxx c (by omega)
    refine⟨_,h.r 0,bl,_,g1,_,fun _=>h.r 1,fun _=>bh,_,fun _=>g2,fun hc5=>?_,fun hc5=>?_⟩
    ·rw [hc5] at k;refine h.sta 2 rfl rfl fun H2 h=>⟨_,h.r 2,?_⟩
     exact k _ h.tl.tl.tl.tl
    rw [hc5] at k;simp only [Bool.not_false,Bool.true_and] at k;refine⟨c.h,h.rdt (l:=[_,_,_,_,_,_,_]) 3 rfl rfl,?_⟩;refine qs0 h fun fb H5 h=>⟨_,_,rfl,rfl,fun R hR1 hR2 hy=>?_⟩
    have h:=h.rng R;refine qlw (f:=c.h) (fun j=>star [cellsA lb [I64 (q0f c.mn)] 3,cellsA hb [I64 (q0f c.mx)] 3,cellsA b1 [.bool false] 4,pt (H5.size+1) (.loop R),pur (∀q,q < j→c.h q=0∨q0f c.mn≤q∧(q:Int)≤q0f c.mx)])
     (star [cellsA lb [I64 (q0f c.mn)] 3,cellsA hb [I64 (q0f c.mx)] 3,cellsA b1 [.bool false] 4,pt (H5.size+1) (.loop { R with state:=.done,pending:=some .ret }),pur (inB c=false)])
     (F:=pt H5.size (.deferred (some []))::cellsA b (encC c) 62::F) ?_ ?_ ?_ ?_ ?_
    ·refine SatL.shut [_,_,_,_,_] ?_;have h2:=((h.o [3,4,5,0,2,1,6] 7).pur (p:=∀q:Nat,q < 0→c.h q=0∨q0f c.mn≤q∧(q:Int)≤q0f c.mx) (fun q hq=>absurd hq (Nat.not_lt_zero q)))
     exact h2.o [1,2,3,4,0] 5
    ·intro j hj hz;have:(∀q,q < j→c.h q=0∨q0f c.mn≤q∧(q:Int)≤q0f c.mx)=(∀q,q < j+1→c.h q=0∨q0f c.mn≤q∧(q:Int)≤q0f c.mx):=propext ⟨fun hh q hq=>by
      rcases z9f q j with h1|h1
      ·exact hh q h1
      ·obtain rfl:q=j:=by omega
       exact .inl hz,fun hh q hq=>hh q (by omega)⟩
     simp only [this]
    ·intro j hj hne G H6 K1 h kt kf;have h:=SatL.open (A:=[_,_,_,_,_]) h;have hp2:=(SatL.consP (h.o [4,0,1,2,3] 5)).1;refine hy _ _ _ ?_;refine⟨_,_,rfl,h.getO 3 rfl,h.getO 3 rfl,h.stl 3 rfl fun H7 h=>⟨_,h.r 0,_,fun _=>h.r 1,fun hc6=>?_,fun hc6=>?_⟩⟩
     ·refine h.sta 2 rfl rfl fun H8 h=>⟨h.getO 3 rfl,kf _ ?_⟩
      have h:=h.setO 3 rfl (.loop { R with state:=.done,pending:=some .ret });have hib:inB c=false:=by
       rw [zb9];intro hib;unfold inB at hib;rw [z9t] at hib;have:=hib j (za7.2 hj);simp only [z94,z8s] at this hc6;omega
      refine SatL.shut [_,_,_,_,_] ?_;exact ((h.pur hib).o [1,2,3,4,0] 6)
     ·refine⟨h.getO 3 rfl,kt _ ?_⟩;have h:=h.setO 3 rfl (.loop R);refine SatL.shut [_,_,_,_,_] ?_;have hp3:∀q,q < j+1→c.h q=0∨q0f c.mn≤q∧(q:Int)≤q0f c.mx:=fun q hq=>by
       rcases z9f q j with h1|h1
       ·exact hp2 q h1
       ·obtain rfl:q=j:=by omega
        simp only [z92,z8v] at hc6;exact .inr (by omega)
      exact ((h.pur hp3).o [1,2,3,4,0] 6)
    ·intro H6 h;have h:=SatL.open (A:=[_,_,_,_,_]) h;have hp2:=(SatL.consP (h.o [4,0,1,2,3] 5)).1;have hib:inB c=true:=by
      unfold inB;rw [z9t];intro q hq;have:=hp2 q (za7.1 hq);simp only [z94,z8s];exact this
     rw [hib] at k;refine⟨.ready,none,by decide,by rw [q5i hR1 hR2]; exact h.getO 3 rfl,h.stl 3 rfl fun H9 h=>.inl ⟨rfl,?_⟩⟩
     refine h.sta 2 rfl rfl fun H10 h=>⟨h.getO 6 rfl,?_⟩
     have h:=h.setO 6 rfl (.deferred none);exact⟨_,h.r 2,k _ (h.o [7] 8).tl⟩
    ·intro H6 h;have h:=SatL.open (A:=[_,_,_,_,_]) h;have hib:=(SatL.consP (h.o [4,0,1,2,3] 5)).1;rw [hib] at k;refine⟨.done,some .ret,by decide,h.getO 3 rfl,h.stl 3 rfl fun H9 h=>.inr ⟨rfl,h.getO 6 rfl,?_⟩⟩
     have h:=h.setO 6 rfl (.deferred none);exact⟨_,h.r 2,k _ (h.o [7] 8).tl⟩
   refine⟨_,h.r 1,_,q1z wc.mn,_,h.r 1,_,q1z wc.mx,?_,?_⟩
   ·refine h.al fun lb _ h=>⟨q1z wc.mx,h.r 2,q1z wc.mn,h.r 2,?_⟩
    refine h.al fun hb _ h=>⟨q1z wc.mx,h.r 3,q1z wc.mn,h.r 3,?_⟩
    refine h.sta 1 rfl rfl fun _ h=>h.sta 0 rfl rfl fun _ h=>?_
    exact fin _ _ _ (h.o [1,0] 2)
   ·refine h.al fun lb _ h=>⟨q1z wc.mx,h.r 2,q1z wc.mn,h.r 2,?_⟩
    refine h.al fun hb _ h=>⟨q1z wc.mx,h.r 3,q1z wc.mn,h.r 3,?_⟩
    refine h.sta 0 rfl rfl fun _ h=>h.sta 1 rfl rfl fun _ h=>?_
    exact fin _ _ _ h
end
end Go.Proofs.YtfmkddccnjidmaaGreatDoor
namespace Go.Nm
section
variable {H:Heap} {L:List Assn}
theorem SatL.stv {Q:Heap→Prop}{b e n o:Nat}{f:Nat→Int}{j:Nat}{x:Int}(h:SatL H L)(i:Nat)(hA:nth i L=cellsA b (vecL .i64 f n 0) e)(hj:j < n)(ho:o=0+j)(k:∀H',SatL H' (put i (cellsA b (vecL .i64 (updN f j x) n 0) e) L)→Q H') :
  q38 H b o [I64 x]∧∀H',H'=q46 H b o [I64 x]→Q H':=by
 subst ho;rw [z9e];refine⟨h.can i hA j _ (by rw [q7g]; simp; omega),?_⟩;rintro H' rfl;have:=h.set i hA j [I64 x];have e2:q1q (vecL .i64 f n 0) j [I64 x]=vecL .i64 (updN f j x) n 0:=by
  show (vecL .i64 f n 0).set j (I64 x)=_;rw [qod _ _ _ _ _ _ hj,z9e]
 rw [e2] at this;exact k _ this
theorem SatL.stt {Q:Heap→Prop}{b e o:Nat}{l r vs:List Value}(h:SatL H L)(i:Nat)(hA:nth i L=cellsA b (l++r) e)(ho:o=l.length)(hl:vs.length=r.length)(k:∀H',SatL H' (put i (cellsA b (l++vs) e) L)→Q H') :
  q38 H b o vs∧∀H',H'=q46 H b o vs→Q H':=by
 subst ho;refine⟨h.can i hA _ _ (by rw [z8r]; omega),?_⟩;rintro H' rfl;have:=h.set i hA l.length vs;have e2:q1q (l++r) l.length vs=l++vs:=by
  have:=q2b vs l r 0;rw [zam] at this;rw [this,qie _ _ hl]
 rw [e2] at this;exact k _ this
end
end Go.Nm
namespace Go.Proofs.YtfmkddccnjidmaaGreatDoor
open Go.Nm
section
variable {F L:List Assn} {H:Heap} {K:Value→Heap→Prop}
theorem z6d {f:Nat→Int}{v:Int}(hf:wfH f)(hv:wf64 v)(h:SatL H F)(k:∀H',SatL H' F→K (.tuple #[.agg ⟨vecL .i64 (addH f v).1 65 0⟩,I64 (addH f v).2]) H') :
  CF 263 #[.agg ⟨vecL .i64 f 65 0⟩,I64 v] H K:=by
 refine z0o ?_;unfold addH at k;refine h.al fun b _ h=>?_
 refine h.al fun b1 _ h=>⟨f,h.rda 1 rfl,?_⟩
 refine z1n h fun H2 h=>⟨_,rfl,fun hc=>?_,fun hc=>?_⟩
 ·rw [if_pos (by simpa using hc)] at k;refine h.sta 0 rfl rfl fun H3 h=>⟨_,h.rda 0 rfl,k _ h.tl.tl⟩
 rw [if_neg (by simpa using hc)] at k;have hb:=q5t hv;have hlt:(q0f v).toNat < 65:=by omega
 have hget:q02 H2 b (0+(q0f v).toNat)=some (I64 (f (q0f v).toNat)):=by
  rw [h.rd 1 rfl,z9e,qdy _ _ _ _ _ hlt,z9e]
 refine⟨_,q1z hv,hb,_,hget,fun hc2=>?_,fun hc2=>?_⟩
 ·rw [if_pos (z8q hc2)] at k;refine h.sta 0 rfl rfl fun H3 h=>⟨_,h.rda 0 rfl,k _ h.tl.tl⟩
 have hne:=z8t hc2;rw [if_neg hne] at k;have hfv:=hf _ hlt;unfold wf64 at hfv;refine⟨hb,_,hget,hb,?_⟩;rw [w64 (x:=f (q0f v).toNat+1)];refine h.stv 1 rfl hlt rfl fun H3 h=>⟨_,h.rda 1 rfl,?_⟩
 refine h.sta 0 rfl rfl fun H3 h=>⟨_,h.rda 0 rfl,k _ h.tl.tl⟩
theorem qlx {c:Cl}{certain:Bool}(wc:WC c)(h:SatL H F)(k:∀H',SatL H' F→K (.tuple #[aggC (q60 c certain).1,I64 (q60 c certain).2]) H') :
  CF 222 #[aggC c,.bool certain] H K:=by
 refine qv2 ?_;unfold q60 at k;have wn:=qxw wc;refine h.al fun b _ h=>?_
 refine h.al fun b1 _ h=>⟨_,_,_,_,_,_,_,_,h.rda 1 rfl,?_⟩
 refine q56 wc h fun H2 h=>⟨_,rfl,fun hc=>?_,fun hc=>?_⟩
 ·rw [if_pos (by simpa using hc)] at k;refine h.sta 0 rfl rfl fun H3 h=>⟨_,_,_,_,_,_,_,_,h.rda 0 rfl,k _ h.tl.tl⟩
 rw [if_neg (by simpa using hc)] at k;refine fun Jn hJ=>⟨fun hb=>hJ _ _ ?_,fun hb=>hJ _ _ ?_⟩
 ·rw [if_pos hb] at k;refine q01 ⟨_,h.r 1,fun hm=>?_,fun hm=>?_⟩
  ·rw [if_pos (z8q hm)] at k;refine h.sta 0 rfl rfl fun H3 h=>⟨_,_,_,_,_,_,_,_,h.rda 0 rfl,k _ h.tl.tl⟩
  ·have hm:=z8t hm;rw [if_neg hm] at k;have:=wc.cer;unfold wf64 at this;refine q01 ⟨_,h.r 1,q01 ?_⟩;rw [w64 (x:=c.cer+1)];refine h.st 1 rfl rfl fun H3 h=>?_
   have h:SatL H3 (cellsA b1 (encC Cl.z) 62::cellsA b (encC { c with cer:=c.cer+1 }) 62::F):=h;refine⟨_,_,_,_,_,_,_,_,h.rda 1 rfl,?_⟩;refine h.sta 0 rfl rfl fun H3 h=>⟨_,_,_,_,_,_,_,_,h.rda 0 rfl,k _ h.tl.tl⟩
 ·rw [if_neg (by rw [hb]; decide)] at k;refine q01 ⟨_,h.r 1,fun hm=>?_,fun hm=>?_⟩
  ·rw [if_pos (z8q hm)] at k;refine h.sta 0 rfl rfl fun H3 h=>⟨_,_,_,_,_,_,_,_,h.rda 0 rfl,k _ h.tl.tl⟩
  ·have hm:=z8t hm;rw [if_neg hm] at k;have:=wc.pos;unfold wf64 at this;refine q01 ⟨_,h.r 1,q01 ?_⟩;rw [w64 (x:=c.pos+1)];refine h.st 1 rfl rfl fun H3 h=>?_
   have h:SatL H3 (cellsA b1 (encC Cl.z) 62::cellsA b (encC { c with pos:=c.pos+1 }) 62::F):=h;refine⟨_,_,_,_,_,_,_,_,h.rda 1 rfl,?_⟩;refine h.sta 0 rfl rfl fun H3 h=>⟨_,_,_,_,_,_,_,_,h.rda 0 rfl,k _ h.tl.tl⟩
set_option maxHeartbeats 1000000 in
theorem z6e {c:Cl}{v:Int}(wc:WC c)(hv:wf64 v)(h:SatL H F)(k:∀H',SatL H' F→K (.tuple #[aggC (addC c v).1,I64 (addC c v).2]) H') :
  CF 225 #[aggC c,I64 v] H K:=by
 refine z0q ?_;unfold addC at k;refine h.al fun b _ h=>?_
 refine h.al fun b1 _ h=>⟨_,_,_,_,_,_,_,_,h.rda 1 rfl,?_⟩
 refine q56 wc h fun H2 h=>⟨_,rfl,fun hc=>?_,fun hc=>?_⟩
 ·rw [if_pos (by simpa using hc)] at k;refine h.sta 0 rfl rfl fun H3 h=>⟨_,_,_,_,_,_,_,_,h.rda 0 rfl,k _ h.tl.tl⟩
 rw [if_neg (by simpa using hc)] at k;refine⟨_,h.r 1,_,_,qxu wc.n (by decide),fun hn=>?_,fun hn=>?_⟩
 ·rw [if_pos (by simpa using hn)] at k;refine h.sta 0 rfl rfl fun H3 h=>⟨_,_,_,_,_,_,_,_,h.rda 0 rfl,k _ h.tl.tl⟩
 rw [if_neg (by simpa using hn)] at k;intro Jn hJ;have w128:q6u v:=by unfold wf64 at hv; unfold q6u; omega
 have fin:∀sb H4,SatL H4 (cellsA sb [I64 (whi (wadd c.sum v).1),.int .u64 (wlo (wadd c.sum v).1)] 58::cellsA b1 (encC Cl.z) 62::cellsA b (encC c) 62::F)→Jn (wadd c.sum v).2 sb 0 H4:=by
  intro sb H4 h;refine hJ _ _ _ _ ?_;refine⟨fun hw=>?_,fun hw=>?_⟩
  ·rw [if_pos (by simpa using hw)] at k;refine h.sta 1 rfl rfl fun H3 h=>⟨_,_,_,_,_,_,_,_,h.rda 1 rfl,k _ h.tl.tl.tl⟩
  rw [if_neg (by simpa using hw)] at k;refine⟨c.h,h.rdt (l:=[_,_,_,_,_,_,_]) 2 rfl rfl,?_⟩;refine z6d wc.h hv h fun H5 h=>⟨_,_,rfl,?_⟩
  refine h.al fun b2 _ h=>?_
  refine h.sta 0 rfl rfl fun H6 h=>⟨fun hh=>?_,fun hh=>?_⟩
  ·rw [if_pos (by simpa using hh)] at k;refine h.sta 2 rfl rfl fun H3 h=>⟨_,_,_,_,_,_,_,_,h.rda 2 rfl,k _ h.tl.tl.tl.tl⟩
  rw [if_neg (by simpa using hh)] at k;refine⟨_,h.r 3,fun Jn1 hJ1=>?_⟩
  dsimp only at k;have fin2:∀(mn mx:Int) H7,mn=(if c.n=0 then v else c.mn)→mx=(if c.n=0 then v else c.mx)→SatL H7 (cellsA b2 (vecL .i64 (addH c.h v).1 65 0) 60::cellsA sb [I64 (whi (wadd c.sum v).1),.int .u64 (wlo (wadd c.sum v).1)] 58::cellsA b1 (encC Cl.z) 62::cellsA b (encC { c with mn:=mn,mx:=mx }) 62::F)→Jn1 H7:=by
   intro mn mx H7 e1 e2 h;refine hJ1 _ ?_;rw [← e1,← e2] at k;refine⟨_,_,h.rda 1 rfl,_,h.rda 0 rfl,?_⟩;refine h.st 3 rfl rfl fun H8 h=>⟨h.rda 0 rfl,h.rda 1 rfl,?_⟩
   refine h.st 3 rfl rfl fun H9 h=>⟨h.rda 0 rfl,?_⟩
   have h:SatL H9 (cellsA b2 (vecL .i64 (addH c.h v).1 65 0) 60::cellsA sb [I64 (whi (wadd c.sum v).1),.int .u64 (wlo (wadd c.sum v).1)] 58::cellsA b1 (encC Cl.z) 62::cellsA b (encC { c with n:=(addS c.n 1).1,sum:=(wadd c.sum v).1,mn:=mn,mx:=mx }) 62::F):=h;refine h.stt (l:=[_,_,_,_,_,_,_]) 3 rfl rfl (by rw [q7g,q7g]) fun H10 h=>?_
   have h:SatL H10 (cellsA b2 (vecL .i64 (addH c.h v).1 65 0) 60::cellsA sb [I64 (whi (wadd c.sum v).1),.int .u64 (wlo (wadd c.sum v).1)] 58::cellsA b1 (encC Cl.z) 62::cellsA b (encC { c with n:=(addS c.n 1).1,sum:=(wadd c.sum v).1,mn:=mn,mx:=mx,h:=(addH c.h v).1 }) 62::F):=h;refine⟨_,h.r 3,_,h.r 3,?_⟩;refine h.st 3 rfl rfl fun H11 h=>?_
   refine h.st 3 rfl rfl fun H12 h=>?_
   have h:SatL H12 (cellsA b2 (vecL .i64 (addH c.h v).1 65 0) 60::cellsA sb [I64 (whi (wadd c.sum v).1),.int .u64 (wlo (wadd c.sum v).1)] 58::cellsA b1 (encC Cl.z) 62::
    cellsA b (encC { c with n:=(addS c.n 1).1,sum:=(wadd c.sum v).1,mn:=if v < mn then v else mn,mx:=if v > mx then v else mx,h:=(addH c.h v).1 }) 62::F):=h
   refine⟨_,_,_,_,_,_,_,_,h.rda 3 rfl,?_⟩;refine h.sta 2 rfl rfl fun H3 h=>⟨_,_,_,_,_,_,_,_,h.rda 2 rfl,k _ h.tl.tl.tl.tl⟩
  refine⟨fun hz=>?_,fun hz=>?_⟩
  ·have hz:=z8q hz;refine h.st 3 rfl rfl fun H8 h=>?_
   refine h.st 3 rfl rfl fun H9 h=>?_
   exact fin2 v v _ (by rw [if_pos hz]) (by rw [if_pos hz]) h
  ·have hz:=z8t hz;exact fin2 c.mn c.mx _ (by rw [if_neg hz]) (by rw [if_neg hz]) h
 refine⟨_,_,h.rdv (l:=[_]) (vs:=[_,_]) 1 rfl rfl,?_,?_⟩
 ·refine qoe hv h fun H3 h=>⟨_,_,rfl,h.rdv (l:=[_]) (vs:=[_,_]) 1 rfl rfl,?_,?_⟩
  ·refine qj6 wc.sum w128 h fun H4 h=>⟨_,_,_,rfl,?_⟩
   refine h.al fun b3 _ h=>?_
   refine h.sta 0 rfl rfl fun H5 h=>fin _ _ h
  ·refine h.al fun b3 _ h=>⟨h.rdv (l:=[_]) (vs:=[_,_]) 2 rfl rfl,?_⟩
   refine qj6 wc.sum w128 h fun H4 h=>⟨_,_,_,rfl,?_⟩
   refine h.sta 0 rfl rfl fun H5 h=>fin _ _ h
 ·refine h.al fun b3 _ h=>⟨h.rdv (l:=[_]) (vs:=[_,_]) 2 rfl rfl,?_⟩
  refine qoe hv h fun H3 h=>⟨_,_,rfl,h.rdv (l:=[_]) (vs:=[_,_]) 2 rfl rfl,?_⟩
  refine qj6 wc.sum w128 h fun H4 h=>⟨_,_,_,rfl,?_⟩
  refine h.sta 0 rfl rfl fun H5 h=>fin _ _ h
end
end Go.Proofs.YtfmkddccnjidmaaGreatDoor
namespace Go.Nm
structure Ky where
 win:Int
 ser:ByteArray
deriving DecidableEq
abbrev encK (k:Ky):List Value:=[I64 k.win,.string k.ser]
abbrev aggK (k:Ky):Value:=.agg ⟨encK k⟩
theorem q8p (k:Ky):(encK k).length=2:=rfl
abbrev Ot:=Ky × Cl
abbrev encO (o:Ot):List Value:=[I64 o.1.win,.string o.1.ser,I64 o.2.n,I64 (whi o.2.sum),.int .u64 (wlo o.2.sum),I64 o.2.mn,I64 o.2.mx,I64 o.2.cer,I64 o.2.pos]++vecL .i64 o.2.h 65 0
theorem q2j (o:Ot):(encO o).length=74:=by simp [encO,q7g]
theorem q6d (o:Ot):q08 (encO o)=true:=q7e rfl (qlu _ _ _ _)
theorem ba_beq (x y:ByteArray):(x.toList == y.toList)=decide (x=y):=by
 rw [z9q,beq_iff_eq,z8s,ByteArray.toList_eq,ByteArray.toList_eq]
 constructor
 ·intro h
  cases x with|mk a=>cases y with|mk b=>
   cases a; cases b
   simp only at h;rw [h]
 ·intro h; rw [h]
def wins (first last:Int):List Int:=(List.range (last - first+1).toNat).map fun i:Nat=>first+i
abbrev CM:=List (Ky × Cl)
def q1j (m:CM)(k:Ky):Cl:=(q09 k m).getD Cl.z
def q42 (m:CM)(ser:ByteArray)(ws:List Int):Int:=((ws.filter fun w=>(q09 ⟨w,ser⟩ m).isNone).length:Nat)
def qvj (most:Int)(m:CM)(first last:Int)(ser:ByteArray):Bool:=
 if last < first then false else if most≤last - first then false else decide ((m.length:Int)+q42 m ser (wins first last)≤most)
def q7q (m:CM)(ser:ByteArray)(certain:Bool):List Int→CM × Int
 | []=>([],0)
 | w::r=>if (q60 (q1j m ⟨w,ser⟩) certain).2≠0 then ([],(q60 (q1j m ⟨w,ser⟩) certain).2)
  else ((⟨w,ser⟩,(q60 (q1j m ⟨w,ser⟩) certain).1)::(q7q m ser certain r).1,(q7q m ser certain r).2)
def qgv (l:CM)(m:CM):CM:=l.foldl (fun m p=>mset p.1 p.2 m) m
def qad (most:Int)(m:CM)(first last:Int)(ser:ByteArray):CM × Int:=
 if last < first then (m,10) else if qvj most m first last ser=false then (m,20) else
 if (q7q m ser (decide (first=last)) (wins first last)).2≠0 then (m,(q7q m ser (decide (first=last)) (wins first last)).2)
 else (qgv (q7q m ser (decide (first=last)) (wins first last)).1 m,0)
def q81 (m:CM)(k:Ky)(v:Int):CM × Int:=
 match q09 k m with
 | none=>(m,19)
 | some c=>if (addC c v).2≠0 then (m,(addC c v).2) else (mset k (addC c v).1 m,0)
def setS (most:Int)(m:CM)(k:Ky)(c:Cl):CM × Int:=
 if (q09 k m).isSome then (m,18) else if q3g c=false then (m,10) else if most≤(m.length:Int) then (m,20) else (mset k c m,0)
structure ShOk (most:Int)(m:CM):Prop where
 m1:1≤most
 m2:most≤1024
 nd:(q00 m).Nodup
 wc:∀p∈m,WC p.2
 rt:∀p∈m,q3g p.2=true
 wn:∀p∈m,wf64 p.1.win
 len:(m.length:Int)≤most
theorem ShOk.cell {most:Int}{m:CM}(h:ShOk most m)(k:Ky):WC (q1j m k):=by
 unfold q1j
 cases hm:q09 k m with
 | none=>exact WC.z
 | some c=>exact h.wc _ (q0b hm)
end Go.Nm
namespace Go.Proofs.YtfmkddccnjidmaaGreatDoor
open Go.Nm
theorem koK:qnd Tryz.prog 55 aggK:=qqi Tryz.underlying55 (fun x y h=>by
  cases x; cases y; simp only [List.cons.injEq,Value.int.injEq,Value.string.injEq,and_true,true_and] at h; rw [h.1,h.2])
 (fun x y=>by
  have h:q7x Tryz.prog 55 (encK x) (encK y)=some (x.win == y.win && (x.ser == y.ser && true)):=by kernel_rfl
  rw [h];congr 1;rw [z9q];simp only [Bool.and_true,z8u,beq_iff_eq,z8s,Go.MapKept.bytes_beq]
  cases x; cases y
  simp)
 (fun x=>by kernel_rfl) (fun x n=>by
  have hb:(x.ser == x.ser)=true:=(Go.MapKept.bytes_beq _ _).2 rfl;unfold Instr.sameBits; simp [Instr.sameBits,hb])
theorem mtC:MapT Tryz.prog 198 55 62 aggC Cl.z:=qig Tryz.underlying198 (by kernel_rfl)
theorem sl86:SlT Tryz.prog 86 64 74 600:=q9r (by kernel_rfl)
abbrev shC (sb mb:Nat)(most:Int):Assn:=cellsA sb [I64 most,.map (some mb)] 200
abbrev mapC (mb:Nat)(m:CM):Assn:=mapA aggK aggC mb m
section
variable {sb mb:Nat} {most:Int} {m:CM} {F L:List Assn} {H:Heap} {K:Value→Heap→Prop}
theorem qly (h:SatL H F)(k1:most < 1∨1024 < most→K (.tuple #[.pointer none,I64 11]) H)
  (k2:∀sb mb H',ShOk most []→SatL H' (shC sb mb most::mapC mb []::F)→K (.tuple #[PA sb 0,I64 0]) H'):CF 55 #[I64 most] H K:=by
 refine qv7 ⟨fun hc=>k1 (by simpa using hc),fun hc=>?_⟩
 simp only [z92,z8v] at hc;refine h.alm aggK aggC fun mb _ h=>?_
 refine h.al fun sb _ h=>?_
 exact k2 _ _ _ ⟨by omega,by omega,List.nodup_nil,by simp,by simp,by simp,by simp; omega⟩ h
theorem z1p (h:SatL H F)(i j:Nat)(hA:nth i F=shC sb mb most)(hB:nth j F=mapC mb m):q1p Tryz.prog 63 #[PA sb 0] H (I64 (m.length:Nat)):=
 qv6 ⟨_,h.rd i hA _,_,h.mp_len mtC j hB,rfl,rfl⟩
theorem u64sub {a b:Int}(ha:wf64 a)(hb:wf64 b)(h:b≤a):u64.wrap (u64.wrap a - u64.wrap b)=a - b:=by
 unfold wf64 at ha hb;rw [u64e,u64e,u64e];omega
theorem qxy {first last:Int}(h:first≤last):((wins first last).length:Int)=last - first+1:=by
 simp only [wins,z9c,List.length_range]; omega
theorem qxz {first last:Int}{j:Nat}(hj:j < (wins first last).length):(wins first last)[j]=first+(j:Nat):=by simp [wins]
theorem z6f (ok:ShOk most m){first last:Int}{ser:ByteArray}(hf:wf64 first)(hl:wf64 last)(h:SatL H (shC sb mb most::mapC mb m::F))
  (k:∀H',SatL H' (shC sb mb most::mapC mb m::F)→K (.bool (qvj most m first last ser)) H') :
  CF 221 #[PA sb 0,I64 first,I64 last,.string ser] H K:=by
 refine qrh ?_;unfold qvj at k;have hm1:=ok.m1;have hm2:=ok.m2;have hlen:=ok.len;refine⟨fun hc=>?_,fun hc=>?_⟩
 ·rw [if_pos (z8q hc)] at k;exact k _ h
 have hle:=z8t hc;rw [if_neg hle] at k;have em:u64.wrap most=most:=by rw [u64e]; omega
 have es:=u64sub hl hf (by omega);rw [es];refine⟨_,h.r 0,?_⟩;dsimp only;rw [em];refine⟨fun hc2=>?_,fun hc2=>?_⟩
 ·rw [if_pos (z8q hc2)] at k;exact k _ h
 have hap:=z8t hc2;rw [if_neg hap] at k;have hwl:=qxy (first:=first) (last:=last) (by omega);refine⟨_,h.r 0,_,h.mp_len mtC 1 rfl,?_⟩;refine⟨fun n i H'=>∃j:Nat,i=j∧j≤(wins first last).length∧n=(m.length:Int)+q42 m ser ((wins first last).take j)∧SatL H' (shC sb mb most::mapC mb m::F),fun _ i _=>(wins first last).length - i.toNat,
  ⟨0,rfl,z9i _,by simp [q42],h⟩,?_⟩
 rintro n i H1 ⟨j,rfl,hj,rfl,h⟩;have e1:i64.wrap (i64.wrap (last - first)+1)=((wins first last).length:Int):=by rw [w64 (x:=last - first),w64,hwl]
 rw [e1];refine⟨fun hc3=>?_,fun hc3=>?_⟩
 ·have hlt:j < (wins first last).length:=by have:=z8q hc3; omega
  unfold wf64 at hf hl;have ew:i64.wrap (first+(j:Nat))=(wins first last)[j]:=by rw [qxz hlt,w64]
  have hmis:∀q,q42 m ser ((wins first last).take q)≤q:=fun q=>by
   unfold q42;have h1:=List.length_filter_le (fun w=>(q09 (⟨w,ser⟩:Ky) m).isNone) ((wins first last).take q)
   have h2:((wins first last).take q).length≤q:=by rw [z9b]; omega
   omega
  have hmj:=hmis j;have hm0:0≤q42 m ser ((wins first last).take j):=by unfold q42; omega
  rw [ew];refine⟨_,h.r 0,_,_,_,_,_,_,_,_,_,h.mp_get mtC koK 1 rfl (x:=⟨(wins first last)[j],ser⟩),?_⟩;refine h.al fun b _ h=>?_
  refine h.sta 0 rfl (by rw [q2d]; exact (q2d Cl.z).symm) fun H2 h=>?_
  have e3:i64.wrap ((j:Int)+1)=((j+1:Nat):Int):=by rw [w64]; omega
  have emis:q42 m ser ((wins first last).take (j+1))=q42 m ser ((wins first last).take j)+(if (q09 (⟨(wins first last)[j],ser⟩:Ky) m).isNone then 1 else 0):=by
   unfold q42;rw [z9x hlt,List.filter_append,z8r]
   by_cases hn:(q09 (⟨(wins first last)[j],ser⟩:Ky) m).isNone=true
   ·simp [hn]
   ·simp [hn]
  have close:∀n2:Int,n2=(m.length:Int)+q42 m ser ((wins first last).take (j+1))→∀H3,SatL H3 (shC sb mb most::mapC mb m::F)→qfd.r1 (fun n i H'=>∃j:Nat,i=j∧j≤(wins first last).length∧n=(m.length:Int)+q42 m ser ((wins first last).take j)∧SatL H' (shC sb mb most::mapC mb m::F)) (fun _ i _=>(wins first last).length - i.toNat) ((m.length:Int)+q42 m ser ((wins first last).take j)) (j:Int) H1 n2 H3:=by
   intro n2 e H3 h;unfold qfd.r1;rw [e3];exact⟨⟨j+1,rfl,hlt,e,h⟩,by simp only [z8x]; omega⟩
  refine fun Jn hJ=>⟨fun ht=>hJ _ _ (close _ ?_ _ h.tl),fun ht=>hJ _ _ (close _ ?_ _ h.tl)⟩
  ·have:(q09 (⟨(wins first last)[j],ser⟩:Ky) m).isNone=true:=by simpa using ht
   rw [emis,this,w64];simp only [if_true]; omega
  ·have:(q09 (⟨(wins first last)[j],ser⟩:Ky) m).isNone=false:=by simpa using ht
   rw [emis,this];simp
 ·have hge:j=(wins first last).length:=by have:=z8t hc3; omega
  subst hge;rw [z9d (z8z _)];refine⟨_,h.r 0,?_⟩;exact k _ h
theorem qs1 (ok:ShOk most m){key:Ky}{v:Int}(hv:wf64 v)(h:SatL H (shC sb mb most::mapC mb m::F))
  (k:∀H',SatL H' (shC sb mb most::mapC mb (q81 m key v).1::F)→K (I64 (q81 m key v).2) H') :
  CF 194 #[PA sb 0,aggK key,I64 v] H K:=by
 refine qnz ?_;unfold q81 at k;refine h.al fun b _ h=>?_
 have hg:=h.mp_get mtC koK 2 rfl (x:=key);refine⟨_,h.r 1,_,_,h.rda 0 rfl,_,_,_,_,_,_,_,_,_,hg,?_⟩;refine h.al fun b1 _ h=>⟨h.mp_get mtC koK 3 rfl (x:=key),h.rda 1 rfl,h.r 2,?_⟩
 refine h.sta 0 rfl (by rw [q2d]; exact (q2d Cl.z).symm) fun H2 h=>?_
 cases hm:q09 key m with
 | none=>
  rw [hm] at k;exact⟨fun _=>k _ h.tl.tl,fun hf=>by simp at hf⟩
 | some c=>
  rw [hm] at k h;refine⟨fun hf=>by simp at hf,fun _=>?_⟩
  have wc:WC c:=ok.wc _ (q0b hm);have h:SatL H2 (cellsA b1 (encC c) 62::cellsA b (encK key) 55::shC sb mb most::mapC mb m::F):=h;refine⟨_,_,_,_,_,_,_,_,h.rda 0 rfl,?_⟩;refine z6e wc hv h fun H3 h=>⟨_,_,_,_,_,_,_,_,_,rfl,?_⟩
  refine h.sta 0 rfl (by rw [q2d]; exact (q2d c).symm) fun H4 h=>?_
  dsimp only at k;refine⟨fun he=>?_,fun he=>?_⟩
  ·rw [if_pos (by simpa using he)] at k;exact k _ h.tl.tl
  ·rw [if_neg (by simpa using he)] at k;refine⟨_,h.r 2,_,_,h.rda 1 rfl,_,_,_,_,_,_,_,_,h.rda 0 rfl,?_⟩;refine h.mp_update (x:=key) (v:=(addC c v).1) mtC koK 3 rfl fun H5 h=>?_
   exact k _ h.tl.tl
theorem z1q (ok:ShOk most m){key:Ky}{c:Cl}(wc:WC c)(h:SatL H (shC sb mb most::mapC mb m::F))
  (k:∀H',SatL H' (shC sb mb most::mapC mb (setS most m key c).1::F)→K (I64 (setS most m key c).2) H') :
  CF 48 #[PA sb 0,aggK key,aggC c] H K:=by
 refine qv8 ?_;unfold setS at k;refine h.al fun b _ h=>?_
 refine h.al fun b1 _ h=>?_
 have hg:=h.mp_get mtC koK 3 rfl (x:=key);refine⟨_,h.r 2,_,_,h.rda 1 rfl,_,_,_,_,_,_,_,_,_,hg,?_⟩;refine h.al fun b2 _ h=>⟨h.mp_get mtC koK 4 rfl (x:=key),h.rda 2 rfl,h.r 3,?_⟩
 refine h.sta 0 rfl (by rw [q2d]; exact (q2d Cl.z).symm) fun H2 h=>⟨fun ht=>?_,fun ht=>?_⟩
 ·rw [if_pos ht] at k;exact k _ h.tl.tl.tl
 rw [if_neg (by rw [ht]; decide)] at k;have h:SatL H2 (cellsA b2 _ 62::cellsA b1 (encC c) 62::cellsA b (encK key) 55::shC sb mb most::mapC mb m::F):=h;refine⟨_,_,_,_,_,_,_,_,h.rda 1 rfl,?_⟩;refine q56 wc h fun H3 h=>⟨_,rfl,fun hr=>?_,fun hr=>?_⟩
 ·rw [if_pos (by simpa using hr)] at k;exact k _ h.tl.tl.tl
 rw [if_neg (by simpa using hr)] at k;refine⟨_,h.r 3,_,h.mp_len mtC 4 rfl,_,h.r 3,fun hf=>?_,fun hf=>?_⟩
 ·rw [if_pos (z8q hf)] at k;exact k _ h.tl.tl.tl
 rw [if_neg (z8t hf)] at k;refine⟨_,h.r 3,_,_,h.rda 2 rfl,_,_,_,_,_,_,_,_,h.rda 1 rfl,?_⟩;refine h.mp_update (x:=key) (v:=c) mtC koK 4 rfl fun H5 h=>?_
 exact k _ h.tl.tl.tl
end
end Go.Proofs.YtfmkddccnjidmaaGreatDoor
namespace Go.Nm
theorem qs2 (l r:CM)(m:CM):qgv (l++r) m=qgv r (qgv l m):=by unfold qgv; rw [zay]
end Go.Nm
namespace Go.Proofs.YtfmkddccnjidmaaGreatDoor
open Go.Nm
section
variable {sb mb:Nat} {most:Int} {m:CM} {F L:List Assn} {H:Heap} {K:Value→Heap→Prop}
set_option maxHeartbeats 1000000 in
theorem z6g (ok:ShOk most m){first last:Int}{ser:ByteArray}(hf:wf64 first)(hl:wf64 last)(h:SatL H (shC sb mb most::mapC mb m::F))
  (k:∀H',SatL H' (shC sb mb most::mapC mb (qad most m first last ser).1::F)→K (I64 (qad most m first last ser).2) H') :
  CF 192 #[PA sb 0,I64 first,I64 last,.string ser] H K:=by
 refine qri ?_;unfold qad at k;have hm2:=ok.m2;refine⟨fun hc=>?_,fun hc=>?_⟩
 ·rw [if_pos (z8q hc)] at k;exact k _ h
 have hle:=z8t hc;rw [if_neg hle] at k;refine z6f ok hf hl h fun H1 h=>⟨_,rfl,fun hr=>?_,fun hr=>?_⟩
 ·rw [if_pos (by simpa using hr)] at k;exact k _ h
 have hroom:qvj most m first last ser=true:=by simpa using hr
 rw [if_neg (by rw [hroom]; decide)] at k;have hap:last - first < most:=by
  unfold qvj at hroom;rw [if_neg hle] at hroom
  by_cases h2:most≤last - first
  ·rw [if_pos h2] at hroom; cases hroom
  ·omega
 have hwl:=qxy (first:=first) (last:=last) (by omega);have hw0:=hf;unfold wf64 at hw0;refine⟨fun na nn nc i H'=>∃(j:Nat) (done:CM),i=j∧j≤(wins first last).length∧nn=done.length∧done.length=j∧
   q7q m ser (decide (first=last)) (wins first last)=(done++(q7q m ser (decide (first=last)) ((wins first last).drop j)).1,(q7q m ser (decide (first=last)) ((wins first last).drop j)).2)∧
   SatL H' (slA 64 74 na done.length nc (flat encO done)::shC sb mb most::mapC mb m::F),
  fun _ _ _ i _=>(wins first last).length - i.toNat,⟨0,[],rfl,z9i _,rfl,rfl,rfl,h.sl_nil 64 74⟩,?_⟩
 rintro na nn nc i H2 ⟨j,done,rfl,hj,rfl,hdj,e,h⟩;have e1:i64.wrap (i64.wrap (last - first)+1)=((wins first last).length:Int):=by rw [w64 (x:=last - first),w64,hwl]
 rw [e1];refine⟨fun hc3=>?_,fun hc3=>?_⟩
 ·have hlt:j < (wins first last).length:=by have:=z8q hc3; omega
  unfold wf64 at hl;have ew:i64.wrap (first+(j:Nat))=(wins first last)[j]:=by rw [qxz hlt,w64]
  rw [ew];rw [za1 hlt,q7q] at e;have wc:=ok.cell ⟨(wins first last)[j],ser⟩;refine h.al fun b _ h=>?_
  refine h.sta 0 rfl rfl fun H3 h=>fun Jn hJ=>?_
  refine⟨_,h.r 2,_,_,h.rda 0 rfl,_,_,_,_,_,_,_,_,h.mp_get1 mtC koK 3 rfl (x:=⟨(wins first last)[j],ser⟩),?_⟩;have fin:∀cb H4,SatL H4 (cellsA cb (encC (q60 (q1j m ⟨(wins first last)[j],ser⟩) (decide (first=last))).1) 62::cellsA b (encK ⟨(wins first last)[j],ser⟩) 55::slA 64 74 na done.length nc (flat encO done)::shC sb mb most::mapC mb m::F)→
    Jn cb 0 (q60 (q1j m ⟨(wins first last)[j],ser⟩) (decide (first=last))).2 H4:=by
   intro cb H4 h;refine hJ _ _ _ _ ?_;refine⟨fun he=>?_,fun he=>?_⟩
   ·have he:(q60 (q1j m ⟨(wins first last)[j],ser⟩) (decide (first=last))).2≠0:=by simpa using he
    rw [if_pos he] at e;rw [e,if_pos he] at k;exact k _ h.tl.tl.tl
   ·have he:¬(q60 (q1j m ⟨(wins first last)[j],ser⟩) (decide (first=last))).2≠0:=by simpa using he
    rw [if_neg he] at e;refine⟨_,_,h.rda 1 rfl,_,_,_,_,_,_,_,_,h.rda 0 rfl,?_⟩;rintro b1 _ rfl rfl;refine h.append1 (ws:=encO (⟨(wins first last)[j],ser⟩,(q60 (q1j m ⟨(wins first last)[j],ser⟩) (decide (first=last))).1)) sl86 2 rfl (q2j _) (q6d _) (by omega) (by omega) fun a' c' H' h=>⟨_,_,_,rfl,?_⟩
    rw [show i64.wrap ((j:Int)+1)=((j+1:Nat):Int) by rw [w64]; omega];have h:=h.tl.tl;refine⟨⟨j+1,done++[(⟨(wins first last)[j],ser⟩,(q60 (q1j m ⟨(wins first last)[j],ser⟩) (decide (first=last))).1)],rfl,hlt,by simp,by simp [hdj],?_,?_⟩,by simp only [z8x]; omega⟩
    ·rw [e,z91]; rfl
    ·rw [q0k,q7d,z8r];exact h
  refine⟨?_,?_⟩
  ·refine qlx wc h fun H4 h=>⟨_,_,_,_,_,_,_,_,_,rfl,?_⟩
   refine h.al fun b2 _ h=>?_
   refine h.sta 0 rfl (by rw [q2d]; exact (q2d Cl.z).symm) fun H5 h=>fin _ _ h
  ·refine h.al fun b2 _ h=>⟨h.mp_get1 mtC koK 4 rfl (x:=⟨(wins first last)[j],ser⟩),h.rda 1 rfl,h.r 3,?_⟩
   refine qlx wc h fun H4 h=>⟨_,_,_,_,_,_,_,_,_,rfl,?_⟩
   refine h.sta 0 rfl (by rw [q2d]; exact (q2d Cl.z).symm) fun H5 h=>fin _ _ h
 ·have hge:j=(wins first last).length:=by have:=z8t hc3; omega
  subst hge;rw [zal,q7q,z9o] at e;rw [e,if_neg (fun hh=>hh rfl)] at k
  refine⟨fun i H'=>∃q:Nat,i=q∧q≤done.length∧SatL H' (slA 64 74 na done.length nc (flat encO done)::shC sb mb most::mapC mb (qgv (done.take q) m)::F),fun i _=>done.length - i.toNat,⟨0,rfl,z9i _,h⟩,?_⟩
  rintro i H3 ⟨q,rfl,hq,h⟩;refine⟨fun hc4=>?_,fun hc4=>?_⟩
  ·have hlt:q < done.length:=by have:=z8q hc4; omega
   have hr:=h.sl_rd 0 rfl;have hels:=hr.els q2j hlt;refine⟨⟨by omega,by omega⟩,_,_,hr.some q2j (by omega) hlt,_,_,_,_,_,_,_,_,_,_,hels,?_⟩;refine h.al fun b5 _ h=>?_
   refine h.sta 0 rfl (by rw [q2j]; exact (q2j (⟨0,⟨#[]⟩⟩,Cl.z)).symm) fun H4 h=>?_
   have h:SatL H4 (cellsA b5 (encK done[q].1++encC done[q].2) 64::slA 64 74 na done.length nc (flat encO done)::shC sb mb most::mapC mb (qgv (done.take q) m)::F):=h;refine⟨_,h.r 2,_,_,h.rdv (l:=[]) 0 rfl rfl,_,_,_,_,_,_,_,_,h.rdt 0 rfl rfl,?_⟩;refine h.mp_update (x:=done[q].1) (v:=done[q].2) mtC koK 3 rfl fun H5 h=>?_
   rw [show i64.wrap ((q:Int)+1)=((q+1:Nat):Int) by rw [w64]; omega];refine⟨⟨q+1,rfl,hlt,?_⟩,by simp only [z8x]; omega⟩;rw [z9x hlt,qs2];exact h.tl
  ·have:q=done.length:=by have:=z8t hc4; omega
   subst this;rw [z9d (z8z _)] at h;exact k _ h.tl
end
open Go.Nm Go.Shelf Go.RowKit Go.Lib Go.Sort
def qj7 (a b:Int):Int:=if a < b then -1 else if b < a then 1 else 0
def qe1 (x y:ByteArray):Int:=if Op.bytesLess x.toList y.toList then -1 else if !(Op.bytesLess x.toList y.toList || x.toList == y.toList) then 1 else 0
theorem cmp182 (a b:Int)(W:World):Calls Tryz.prog 182 #[.int .i64 a,.int .i64 b] W fun e w'=>e=.returned (.int .i64 (qj7 a b))∧w'=W:=by
 obtain⟨r,hr⟩:∃r,r=qj7 a b:=⟨_,rfl⟩;rw [← hr];unfold qj7 at hr
 go_enter Tryz.func182,Tryz.ntmps182
 go_wp2
 ·rename_i h;have e:r=-1:=by rw [hr,if_pos h]
  go_ret
  exact⟨by clear hr; subst e; rfl,rfl⟩
 ·rename_i h1 _ _ h2;have e:r=1:=by rw [hr,if_neg (by omega),if_pos h2]
  go_ret
  exact⟨by clear hr; subst e; rfl,rfl⟩
 ·rename_i h1 _ _ h2;have e:r=0:=by rw [hr,if_neg (by omega),if_neg (by omega)]
  go_ret
  exact⟨by clear hr; subst e; rfl,rfl⟩
theorem cmp183 (x y:ByteArray)(W:World):Calls Tryz.prog 183 #[.string x,.string y] W fun e w'=>e=.returned (.int .i64 (qe1 x y))∧w'=W:=by
 obtain⟨r,hr⟩:∃r,r=qe1 x y:=⟨_,rfl⟩;rw [← hr];unfold qe1 at hr
 go_enter Tryz.func183,Tryz.ntmps183
 go_wp2
 ·rename_i h;have e:r=-1:=by rw [hr,if_pos h]
  go_ret
  exact⟨by clear hr; subst e; rfl,rfl⟩
 ·have h1:=‹Op.bytesLess x.toList y.toList=false›;have h2:=‹(!x.toList == y.toList)=true›;have e:r=1:=by rw [hr,h1]; simp only [Bool.false_or,h2,if_true,zas,if_false]
  go_ret
  exact⟨by clear hr; subst e; rfl,rfl⟩
 ·have h1:=‹Op.bytesLess x.toList y.toList=false›;have h2:=‹(!x.toList == y.toList)=false›;have e:r=0:=by rw [hr,h1]; simp only [Bool.false_or,h2,if_true,zas,if_false]
  go_ret
  exact⟨by clear hr; subst e; rfl,rfl⟩
def qbp (x y:Nm.Ky):Int:=if qj7 x.win y.win≠0 then qj7 x.win y.win else qe1 x.ser y.ser
set_option maxHeartbeats 1000000 in
theorem cmp131 (x y:Nm.Ky)(W:World):Calls Tryz.prog 131 #[.agg #[.int .i64 x.win,.string x.ser],.agg #[.int .i64 y.win,.string y.ser]] W fun e w'=>e=.returned (.int .i64 (qbp x y))∧∃q os',w'=grow (W.drewN q) os':=by
 obtain⟨r,hr⟩:∃r,r=qbp x y:=⟨_,rfl⟩;rw [← hr];unfold qbp at hr;have h1:=fun W'=>cmp182 x.win y.win W'
 have h2:=fun W'=>cmp183 x.ser y.ser W'
 generalize qj7 x.win y.win=ri at *;generalize qe1 x.ser y.ser=rs at *
 go_enter Tryz.func131,Tryz.ntmps131
 go_wp2_with (first|(go_at_call 182; refine (h1 _).mono ?_; rintro e w' ⟨rfl,rfl⟩)|(go_at_call 183; refine (h2 _).mono ?_; rintro e w' ⟨rfl,rfl⟩))
 ·rename_i h;have e:r=ri:=by rw [hr,if_pos (by simpa using h)]
  go_ret
  exact⟨by clear hr; subst e; rfl,0,_,by rw [alloc_eq_grow,alloc_eq_grow,grow_grow]; rfl⟩
 ·rename_i h;have e:r=rs:=by rw [hr,if_neg (by simpa using h)]
  go_ret
  exact⟨by clear hr; subst e; rfl,0,_,by rw [alloc_eq_grow,alloc_eq_grow,grow_grow]; rfl⟩
theorem ltKy (x y:Nm.Ky):ltOf qbp x y=(decide (x.win < y.win) || (decide (x.win=y.win) && Op.bytesLess x.ser.toList y.ser.toList)):=by
 unfold ltOf qbp qj7 qe1
 by_cases h1:x.win < y.win
 ·simp [h1]
 ·by_cases h2:y.win < x.win
  ·have:¬x.win=y.win:=by omega
   simp [h1,h2,this]
  ·have:x.win=y.win:=by omega
   rw [if_neg h1,if_neg h2];simp only [ne_eq,not_true_eq_false,if_false]
   by_cases h3:Op.bytesLess x.ser.toList y.ser.toList=true
   ·simp [h1,this,h3]
   ·by_cases h4:(!(Op.bytesLess x.ser.toList y.ser.toList || x.ser.toList == y.ser.toList))=true
    ·rw [if_neg h3,if_pos h4]; simp [h1,h3]
    ·rw [if_neg h3,if_neg h4]; simp [h1,h3]
theorem z1r (x y:Nm.Ky):ltOf qbp x y=true↔x.win < y.win∨x.win=y.win∧x.ser.toList < y.ser.toList:=by
 rw [ltKy,bytesLess_eq]; simp
theorem swoKy:SWO (ltOf qbp) where
 irrefl x:=by
  rw [zb9];intro h
  rcases (z1r _ _).1 h with h|h
  ·omega
  ·exact List.lt_irrefl _ h.2
 trans x y z h1 h2:=by
  rw [z1r] at *
  rcases h1 with h1|h1 <;> rcases h2 with h2|h2
  ·exact .inl (by omega)
  ·exact .inl (by omega)
  ·exact .inl (by omega)
  ·exact .inr ⟨by omega,List.lt_trans h1.2 h2.2⟩
 ntrans x y z h1 h2:=by
  rw [zb9] at *;intro h3;rw [Ne,z1r,not_or] at h1 h2;rw [z1r] at h3;have a1:¬(x.win=y.win∧x.ser.toList < y.ser.toList):=h1.2;have a2:¬(y.win=z.win∧y.ser.toList < z.ser.toList):=h2.2
  rcases h3 with h3|h3
  ·omega
  ·have e1:x.win=y.win:=by omega
   have e2:y.win=z.win:=by omega
   have b1:¬x.ser.toList < y.ser.toList:=fun h=>a1 ⟨e1,h⟩
   have b2:¬y.ser.toList < z.ser.toList:=fun h=>a2 ⟨e2,h⟩
   exact List.not_lt.2 (List.le_trans (List.not_lt.1 b2) (List.not_lt.1 b1)) h3.2
theorem totKy (x y:Nm.Ky)(h1:(ltOf qbp) x y=false)(h2:(ltOf qbp) y x=false):x=y:=by
 rw [zb9,Ne,z1r,not_or] at h1 h2;have e:x.win=y.win:=by omega
 have b1:¬x.ser.toList < y.ser.toList:=fun h=>h1.2 ⟨e,h⟩
 have b2:¬y.ser.toList < x.ser.toList:=fun h=>h2.2 ⟨e.symm,h⟩
 have e2:x.ser.toList=y.ser.toList:=List.le_antisymm (List.not_lt.1 b2) (List.not_lt.1 b1);have:=ba_beq x.ser y.ser;rw [e2] at this;have h3:x.ser=y.ser:=by simpa using this
 cases x; cases y
 simp only at e h3;rw [e,h3]
end Go.Proofs.YtfmkddccnjidmaaGreatDoor
namespace Go.Nm
instance:Inhabited Ky:=⟨⟨0,⟨#[]⟩⟩⟩
theorem qof (pre cs post ys:List Value)(hl:ys.length=cs.length) :
  Sort.putCells id pre.length ys.toArray (pre++cs++post).toArray=(pre++ys++post).toArray:=by
 apply Array.ext';apply List.ext_getElem?;intro j;simp only [Sort.putCells,List.size_toArray];rw [Array.getElem?_toList,Array.getElem?_mapIdx,List.getElem?_toArray];rw [z91,z91]
 by_cases h1:j < pre.length
 ·have e1:(pre++(cs++post))[j]?=some pre[j]:=by rw [List.getElem?_append_left h1,List.getElem?_eq_getElem h1]
  have e2:(pre++(ys++post))[j]?=some pre[j]:=by rw [List.getElem?_append_left h1,List.getElem?_eq_getElem h1]
  rw [e1,e2];simp only [z9p];rw [if_neg (by omega)]
 ·have e1:(pre++(cs++post))[j]?=(cs++post)[j - pre.length]?:=List.getElem?_append_right (by omega);have e2:(pre++(ys++post))[j]?=(ys++post)[j - pre.length]?:=List.getElem?_append_right (by omega);rw [e1,e2]
  by_cases h2:j < pre.length+ys.length
  ·have h3:j - pre.length < cs.length:=by omega
   have h4:j - pre.length < ys.length:=by omega
   have e3:(cs++post)[j - pre.length]?=some cs[j - pre.length]:=by rw [List.getElem?_append_left h3,List.getElem?_eq_getElem h3]
   have e4:(ys++post)[j - pre.length]?=some ys[j - pre.length]:=by rw [List.getElem?_append_left h4,List.getElem?_eq_getElem h4]
   rw [e3,e4];simp only [z9p];rw [if_pos ⟨by omega,h2⟩];simp [h4]
  ·have e3:(cs++post)[j - pre.length]?=post[j - pre.length - cs.length]?:=List.getElem?_append_right (by omega);have e4:(ys++post)[j - pre.length]?=post[j - pre.length - cs.length]?:=by rw [List.getElem?_append_right (by omega),hl]
   rw [e3,e4]
   cases hp:post[j - pre.length - cs.length]? with
   | none=>rfl
   | some v=>
    simp only [z9p];rw [if_neg (by omega)]
theorem qlz {α:Type}[Inhabited α](enc:α→List Value)(k:Nat)(hk:∀x,(enc x).length=k)(xs:List α):Go.Sort.flatK enc k xs.toArray=(flat enc xs).toArray:=by
 apply Array.ext';apply za8
 ·simp [q0l hk]
 ·intro t h1 h2;have h1':t < xs.length*k:=by simpa using h1
  have k0:0 < k:=by
   rcases zbh k with h|h
   ·subst h; simp at h1'
   ·exact h
  have hq:t / k < xs.length:=by rw [zap k0]; exact h1'
  have hm:t % k < k:=za4 _ k0;have hg:=qdc hk hq (t % k) hm;have et:t / k*k+t % k=t:=zb3 t k;rw [et,q14,q14] at hg;have hl:t % k < (enc xs[t / k]).length:=by rw [hk]; exact hm
  rw [List.getElem?_eq_getElem (by simpa using h2),List.getElem?_eq_getElem hl] at hg;have hg:=Option.some.inj hg;simp only [Array.getElem_toList];rw [hg];simp [Go.Sort.flatK,hq,hl]
def leKy (x y:Ky):Bool:=!(decide (y.win < x.win) || (decide (y.win=x.win) && Op.bytesLess y.ser.toList x.ser.toList))
def q20 (ks:List Ky):List Ky:=ks.mergeSort leKy
theorem q18 (ks:List Ky):(q20 ks).Perm ks:=List.mergeSort_perm _ _
theorem q82 (ks:List Ky):(q20 ks).length=ks.length:=(q18 ks).length_eq
end Go.Nm
namespace Go.Proofs.YtfmkddccnjidmaaGreatDoor
open Go.Nm Go.RowKit Go.Sort
section
variable {L:List Assn} {H:Heap} {K:Value→Heap→Prop}
theorem z6h:∀args w,(callFunc 131 args).run Tryz.prog w=.ok (.enter 131 args) w:=fun args w=>by kernel_rfl
theorem sortK_eq (ks:List Ky):ks.mergeSort (fun x y=>!(ltOf qbp) y x)=q20 ks:=by
 unfold q20;congr 1;funext x y;rw [ltKy]; rfl
theorem z1s {a:Option Addr}{c:Nat}{xs:List Ky}(h:SatL H L)(i:Nat)(hA:nth i L=slA 55 2 a xs.length c (flat encK xs))(hsz:xs.length < 4611686018427387904)
  (k:∀H',SatL H' (put i (slA 55 2 a xs.length c (flat encK (q20 xs))) L)→K (.tuple #[]) H') :
  CF 180 #[.slice a xs.length c,.func (.func 131) #[] #[]] H K:=by
 intro w hw;subst hw;have h2:=h.foc i;rw [hA] at h2;obtain⟨hl,⟨rfl,hn,rfl,h3⟩|⟨b,pre,post,e',fr,rfl,hnc,hcap,hfr,h3⟩⟩:=q3i h2
 ·have hx:xs=[]:=zbd.1 hn;subst hx;refine q0t (AnyF.slices_SortFunc_none Tryz.sortKA none 0 _ w) ?_;rintro e w' ⟨rfl,rfl⟩;refine⟨_,rfl,⟨rfl,rfl,rfl⟩,k _ (SatL.back ?_)⟩;rw [show q20 []=[] from by simp [q20]];exact qi7 h3
 ·have hb:=Sat.get h3;have hlt:b < w.heap.size:=Sat.lt h3;have hfl:(flat encK xs).length=xs.length*2:=q0l q8p xs;have hsp:=List.Perm.length_eq (q18 xs);have hfl2:(flat encK (q20 xs)).length=xs.length*2:=by rw [q0l q8p,hsp]
  have hnc2:xs.length*2≤c*2:=z9w _ hnc;have hH:HoldsK encK 2 w b pre.length xs.toArray:=by
   unfold HoldsK;rw [qlz encK 2 q8p];intro j hj;have hj':j < (flat encK xs).length:=by simpa using hj
   refine⟨?_,?_⟩
   case refine_2=>
    have:=hfr (pre.length+j) (by omega) (by omega);simp only [World.frozen?,hb,za5,z8v];omega
   simp only [World.cell?,hb,Option.isSome_none,zas,if_false,List.getElem?_toArray];rw [z91,List.getElem?_append_right (by omega),zb5,List.getElem?_append_left hj',List.getElem?_eq_getElem hj'];simp [hj']
  have hcmp:CmpLays Tryz.prog 131 #[] encK 2 qbp b pre.length xs.toArray.size w:=fun m os dk hs x y=>cmp131 x y _
  refine q0t (AnyQ.slices_SortFunc_total Tryz.sortKA 2 Tryz.isAgg55 Tryz.sizeOf55 encK q8p (fun x v hv=>by simp [encK] at hv; rcases hv with rfl|rfl <;> rfl) qbp swoKy 131 #[] b pre.length c xs.toArray w z6h hcmp hH hlt (by simpa using hsz) totKy) ?_
  rintro e w' ⟨rfl,n,os,rfl⟩;refine⟨_,rfl,⟨rfl,rfl,rfl⟩,k _ (SatL.back ?_)⟩;have es:(xs.toArray.toList.mergeSort fun x y=>!(ltOf qbp) y x).toArray=(q20 xs).toArray:=by rw [← sortK_eq]
  rw [es];have hup:Sat (w.heap.modify b (onCells (putCells id pre.length (flat encK (q20 xs)).toArray))) (pt b (.cells (pre++flat encK (q20 xs)++post).toArray e' fr)*star (del i L)):=by
   refine Sat.upd h3 ?_ fun j hj=>?_
   ·rw [Array.getElem?_modify,if_pos rfl,hb];simp only [z9p,onCells];rw [qof _ _ _ _ (by rw [hfl,hfl2])]
   ·rw [Array.getElem?_modify,if_neg (Ne.symm hj)]
  have hg:Sat (w.heap.modify b (onCells (putCells id pre.length (flat encK (q20 xs)).toArray))++os.toList.toArray) (pt b (.cells (pre++flat encK (q20 xs)++post).toArray e' fr)*star (del i L)):=
   hup.grow fun j hj=>by rw [Array.getElem?_append_left hj]
  have hfin:=hg.frame (B:=slA 55 2 (some ⟨b,pre.length,none⟩) xs.length c (flat encK (q20 xs))) fun p hp=>⟨hfl2,.inr ⟨b,pre,post,e',fr,rfl,hnc,hcap,fun _=>hfr,hp⟩⟩
  simpa [sortWorldK,grow,putRowK,putRow,mapBlock,Sort.ahead,qlz encK 2 q8p] using hfin
theorem qvk {r:Nat}{m:CM}(h:SatL H L)(i:Nat)(hA:nth i L=mapA aggK aggC r m)
  (k:∀r' H',SatL H' (mapA aggK aggC r' m::L)→K (.map (some r')) H') :
  CF 128 #[.map (some r)] H K:=by
 intro w hw;subst hw;have h3:=h.foc i;rw [hA] at h3;obtain⟨hn,es,clock,h4,h5,h6,h7⟩:=q3f h3;have hc:=AnyW.maps_Clone Tryz.cloneA4 r es clock w h7.get;refine q0t hc ?_;rintro e w' ⟨rfl,rfl⟩;refine⟨_,rfl,⟨rfl,rfl,rfl⟩,k _ _ ?_⟩;exact (h.push (.map es clock)).mono fun p hp=>⟨hn,es,clock,h4,h5,h6,hp⟩
end
end Go.Proofs.YtfmkddccnjidmaaGreatDoor
namespace Go.Nm
theorem qhc (x y:Ky):leKy x y=true↔x.win < y.win∨x.win=y.win∧x.ser.toList≤y.ser.toList:=by
 unfold leKy;rw [Go.Proofs.bytesLess_eq];simp only [z98,z92,z8v,za5,List.not_lt]
 constructor
 ·rintro⟨h1,h2⟩
  by_cases h:x.win < y.win
  ·exact .inl h
  ·rcases h2 with h2|h2
   ·omega
   ·exact .inr ⟨by omega,h2⟩
 ·rintro (h|h)
  ·exact⟨by omega,.inl (by omega)⟩
  ·exact⟨by omega,.inr h.2⟩
theorem z1t {x y z:Ky}(h1:leKy x y=true)(h2:leKy y z=true):leKy x z=true:=by
 rw [qhc] at *
 rcases h1 with h1|h1 <;> rcases h2 with h2|h2
 ·exact .inl (by omega)
 ·exact .inl (by omega)
 ·exact .inl (by omega)
 ·exact .inr ⟨by omega,List.le_trans h1.2 h2.2⟩
theorem z1u (x y:Ky):(leKy x y || leKy y x)=true:=by
 rw [z94,qhc,qhc]
 by_cases h1:x.win < y.win
 ·exact .inl (.inl h1)
 ·by_cases h2:y.win < x.win
  ·exact .inr (.inl h2)
  ·rcases List.le_total x.ser.toList y.ser.toList with h|h
   ·exact .inl (.inr ⟨by omega,h⟩)
   ·exact .inr (.inr ⟨by omega,h⟩)
theorem ba_ext {x y:ByteArray}(h:x.toList=y.toList):x=y:=by
 have:=ba_beq x y;rw [h] at this;simpa using this
theorem qog {x y:Ky}(h1:leKy x y=true)(h2:leKy y x=true):x=y:=by
 rw [qhc] at *
 rcases h1 with h1|h1 <;> rcases h2 with h2|h2
 ·omega
 ·omega
 ·omega
 ·have:=ba_ext (List.le_antisymm h1.2 h2.2)
  cases x; cases y
  simp only at this h1;rw [this,h1.1]
theorem q3m (l:List Ky):(q20 l).Pairwise fun a b=>leKy a b=true:=
 List.pairwise_mergeSort (le:=leKy) (fun a b c h1 h2=>z1t h1 h2) z1u l
theorem qs3 {l l':List Ky}(h:l.Perm l'):q20 l=q20 l':=
 List.Perm.eq_of_pairwise (le:=fun a b=>leKy a b=true) (fun a b _ _ h1 h2=>qog h1 h2) (q3m l) (q3m l') (((q18 l).trans h).trans (q18 l').symm)
def q0g (m:CM):List Ot:=(q20 (q00 m)).map fun k=>(k,q1j m k)
theorem q6v (m:CM):(q0g m).length=m.length:=by simp [q0g,q82,q00]
def q4m (m:CM)(before:Int):List Ot:=(q0g m).takeWhile fun o=>decide (o.1.win < before)
def qgw (m:CM)(l:List Ot):CM:=l.foldl (fun m o=>mdel o.1 m) m
def qc0 (m:CM)(before:Int):CM:=qgw m (q4m m before)
end Go.Nm
namespace Go.Proofs.YtfmkddccnjidmaaGreatDoor
open Go.Nm
section
variable {sb mb:Nat} {most:Int} {m:CM} {F L:List Assn} {H:Heap} {K:Value→Heap→Prop}
theorem z1v (h:SatL H F)(k:∀c0 H',SatL H' (cellsA c0 [.map (some mb)] 198::F)→K (.func (.func 181) #[] #[PA c0 0]) H'):CF 130 #[.map (some mb)] H K:=by
 refine qgt ?_;exact h.al fun c0 _ h=>k _ _ h
theorem qvl {l c0:Nat}(A:List Ky→Assn)(h:SatL H (A []::cellsA c0 [.map (some mb)] 198::mapC mb m::F))
  (hy:∀dn key (G:List Assn) (H1:Heap) (K1:Value→Heap→Prop),dn.length < m.length→SatL H1 (A dn::G)→(∀H2,SatL H2 (A (dn++[key])::G)→K1 (.bool true) H2)→q44 Tryz.prog l [aggK key] H1 K1)
  (k:∀dn H',dn.Perm (q00 m)→SatL H' (A dn::cellsA c0 [.map (some mb)] 198::mapC mb m::F)→K (.tuple #[]) H') :
  CF 181 #[.func (.yield l) #[] #[],PA c0 0] H K:=by
 refine qdt ?_;refine⟨_,h.r 1,?_⟩;refine h.rg_new mtC 2 rfl fun it H1 h=>⟨it,rfl,?_⟩
 refine⟨fun H'=>∃dn:CM,SatL H' (A (q00 dn)::cellsA c0 [.map (some mb)] 198::rngA aggK aggC it mb m dn::F),fun H'=>m.length - z00 H' it,⟨[],h⟩,?_⟩
 rintro H2 ⟨dn,h⟩;have hcnt:=h.rg_count 2 rfl;refine h.rg_next 2 rfl (fun hp=>.inl ⟨rfl,(fun hf=>by cases hf),fun _=>?_⟩) fun p hpm hpn H3 h=>.inr ⟨_,_,rfl,(fun _=>?_),fun hf=>by cases hf⟩
 ·exact k (q00 dn) _ (hp.map Prod.fst) (h.rg_map 2 rfl)
 ·have hcnt2:=h.rg_count 2 rfl;have hent:=SatL.rg_entry (P:=Tryz.prog) h 2 rfl;refine⟨_,_,_,hent,?_⟩;refine h.al fun b1 _ h=>?_
  refine h.sta 0 rfl rfl fun H4 h=>⟨_,_,h.rda 0 rfl,?_⟩
  rw [z8r] at hcnt2;have hlt:(q00 dn).length < m.length:=by simp only [q00,z9c]; simp at hcnt2; omega
  refine hy (q00 dn) p.1 _ _ _ hlt (h.o [1,0,2,3] 4) fun H5 h=>⟨true,rfl,(fun hf=>by cases hf),fun _=>?_⟩
  have h:SatL H5 (A (q00 dn++[p.1])::cellsA c0 [.map (some mb)] 198::rngA aggK aggC it mb m (dn++[p])::F):=h.o [0,2,3] 4;refine⟨⟨dn++[p],?_⟩,?_⟩
  ·have e:q00 (dn++[p])=q00 dn++[p.1]:=by simp [q00]
   rw [e]; exact h
  ·have:=h.rg_count 2 rfl;rw [z8r] at this;simp only [zaj] at this;show m.length - z00 H5 it < m.length - z00 H2 it;omega
theorem sl225:SlT Tryz.prog 225 55 2 24:=q9r (by kernel_rfl)
theorem z6i {c0:Nat}(hl:m.length≤1000000)(h:SatL H (cellsA c0 [.map (some mb)] 198::mapC mb m::F))
  (k:∀dn a c H',dn.Perm (q00 m)→SatL H' (slA 55 2 a dn.length c (flat encK dn)::mapC mb m::F)→K (.slice a dn.length c) H') :
  CF 214 #[.slice none 0 0,.func (.func 181) #[] #[PA c0 0]] H K:=by
 refine q9f ?_;refine h.al fun b _ h=>⟨rfl,fun R hR1 hR2 hy=>?_⟩
 rename_i H0;have h:=h.rng R;have h:=h.sl_nil 55 2;refine qvl (m:=m) (mb:=mb) (fun dn=>exS fun p:Option Addr × Nat=>star [cellsA b [.slice p.1 dn.length p.2] 225,slA 55 2 p.1 dn.length p.2 (flat encK dn),pt (H0.size+1) (.loop R)])
  (F:=pt H0.size (.deferred (some []))::F) ?_ ?_ ?_
 ·have h:=h.o [3,0,1,4,5,2] 6;exact q0o.2 ⟨(none,0),SatL.shut [_,_,_] h⟩
 ·intro dn key G H1 K1 hlt h kt;obtain⟨⟨a,c⟩,h⟩:=q0o.1 h;have h:=SatL.open (A:=[_,_,_]) h;refine hy _ _ _ ?_;refine⟨_,_,rfl,h.getO 2 rfl,?_⟩;refine h.al fun b1 _ h=>?_
  refine h.sta 0 rfl rfl fun H3 h=>⟨h.getO 3 rfl,h.stl 3 rfl fun H4 h=>?_⟩
  refine⟨_,_,_,h.r 1,_,_,h.rda 0 rfl,?_⟩;rintro b2 _ rfl rfl;refine h.append1 (ws:=encK key) sl225 2 rfl rfl rfl (by omega) (by omega) fun a' c' H5 h=>⟨_,_,_,rfl,?_⟩
  refine h.sta 1 rfl rfl fun H6 h=>⟨h.getO 3 rfl,kt _ ?_⟩
  have h:=h.setO 3 rfl (.loop R);refine q0o.2 ⟨(a',c'),SatL.shut [_,_,_] ?_⟩;rw [q0k,q7d,z8r];exact h.o [1,2,3] 4
 ·intro dn H1 hp h;obtain⟨⟨a,c⟩,h⟩:=q0o.1 h;have h:=SatL.open (A:=[_,_,_]) h;refine⟨.ready,none,by decide,by rw [q5i hR1 hR2]; exact h.getO 2 rfl,h.stl 2 rfl fun H9 h=>⟨rfl,?_⟩⟩
  refine⟨_,_,_,h.r 0,h.getO 5 rfl,?_⟩;have h:=h.setO 5 rfl (.deferred none);exact k dn a c _ hp (h.o [1,4] 6)
theorem qs4 {c0:Nat}(hl:m.length≤1000000)(h:SatL H (cellsA c0 [.map (some mb)] 198::mapC mb m::F))
  (k:∀a c H',SatL H' (slA 55 2 a m.length c (flat encK (q20 (q00 m)))::mapC mb m::F)→K (.slice a m.length c) H') :
  CF 129 #[.func (.func 181) #[] #[PA c0 0],.func (.func 131) #[] #[]] H K:=by
 refine q8l ?_;refine qbk ?_;refine z6i hl h fun dn a c H1 hp h=>⟨_,_,_,rfl,_,_,_,rfl,?_⟩
 have hdl:dn.length=m.length:=by rw [hp.length_eq]; simp [q00]
 refine z1s h 0 rfl (by omega) fun H2 h=>⟨rfl,?_⟩
 rw [hdl,qs3 hp] at h;rw [hdl];exact k _ _ _ h
theorem qfj (h:SatL H F)(k:∀c0 H',SatL H' (cellsA c0 [PA sb 0] 112::F)→K (.func (.func 127) #[] #[PA c0 0]) H'):CF 64 #[PA sb 0] H K:=by
 refine qv5 ?_;exact h.al fun c0 _ h=>k _ _ h
theorem q8q {l c0:Nat}(hl:m.length≤1000000)(A:Nat→Assn)(Ax:Nat→Assn)(B:Assn)(h:SatL H (cellsA c0 [PA sb 0] 112::shC sb mb most::mapC mb m::B::F))
  (hst:∀G H',SatL H' (shC sb mb most::mapC mb m::B::G)→SatL H' (A 0::G))
  (hy:∀j (hj:j < (q0g m).length) (G:List Assn) (H1:Heap) (K1:Value→Heap→Prop),SatL H1 (A j::G)→(∀H2,SatL H2 (A (j+1)::G)→K1 (.bool true) H2)→(∀H2,SatL H2 (Ax j::G)→K1 (.bool false) H2)→
   q44 Tryz.prog l [aggK (q0g m)[j].1,aggC (q0g m)[j].2] H1 K1)
  (k:∀H',SatL H' (A (q0g m).length::F)→K (.tuple #[]) H')
  (kx:∀j H',j < (q0g m).length→SatL H' (Ax j::F)→K (.tuple #[]) H') :
  CF 127 #[.func (.yield l) #[] #[],PA c0 0] H K:=by
 refine qo2 ?_;refine⟨_,h.r 0,q01 ⟨_,h.r 1,?_⟩⟩;refine qvk h 2 rfl fun r H1 h=>⟨_,rfl,?_⟩
 refine z1v h fun kc H2 h=>⟨_,_,rfl,?_⟩
 refine qs4 hl h fun a c H3 h=>⟨_,_,_,rfl,?_⟩
 have hol:(q0g m).length=m.length:=q6v m;have hkl:(q20 (q00 m)).length=m.length:=by rw [q82]; simp [q00]
 have h:=hst _ _ (h.o [3,4,5,0,1] 6);refine⟨fun t H'=>∃j:Nat,t=j∧j≤m.length∧SatL H' (A j::slA 55 2 a m.length c (flat encK (q20 (q00 m)))::mapC r m::F),fun t _=>m.length - t.toNat,⟨0,rfl,z9i _,h⟩,?_⟩
 rintro t H4 ⟨j,rfl,hj,h⟩;refine⟨fun hc=>?_,fun hc=>?_⟩
 ·have hlt:j < m.length:=by have:=z8q hc; omega
  have hlt2:j < (q20 (q00 m)).length:=by omega
  have hr:=h.sl_rd 1 rfl;refine⟨⟨by omega,by omega⟩,_,_,hr.some q8p (by omega) hlt2,_,_,hr.els q8p hlt2,?_⟩;refine h.al fun b1 _ h=>?_
  refine h.sta 0 rfl rfl fun H5 h=>⟨_,_,h.rda 0 rfl,_,_,h.rda 0 rfl,?_⟩
  refine⟨_,_,_,_,_,_,_,_,h.mp_get1 mtC koK 3 rfl (x:=(q20 (q00 m))[j]),?_⟩;have e:(q0g m)[j]'(by omega)=((q20 (q00 m))[j],q1j m (q20 (q00 m))[j]):=by simp [q0g]
  have hyj:=hy j (by omega);rw [e] at hyj;refine hyj _ H5 _ (h.o [1,0,2,3] 4) (fun H6 h=>⟨true,rfl,(fun hf=>by cases hf),fun _=>?_⟩) fun H6 h=>⟨false,rfl,(fun _=>?_),fun hf=>by cases hf⟩
  ·rw [show i64.wrap ((j:Int)+1)=((j+1:Nat):Int) by rw [w64]; omega];exact⟨⟨j+1,rfl,hlt,h.o [0,2,3] 4⟩,by simp only [z8x]; omega⟩
  ·exact kx j _ (by omega) (h.o [0] 4)
 ·have:j=m.length:=by have:=z8t hc; omega
  subst this;have:=k H4;rw [hol] at this;exact this (h.o [0] 3)
end
end Go.Proofs.YtfmkddccnjidmaaGreatDoor
namespace Go.Nm
abbrev lsB (s:ByteArray):List UInt8:=s.data.toList
theorem q57 (s:ByteArray):(lsB s).length=s.size:=za3
theorem qy0 {s:ByteArray}{i:Nat}(h:i < (lsB s).length):bAt s i=((lsB s)[i].toNat:Int):=by
 have h':i < s.data.size:=by simpa using h
 unfold bAt;rw [Array.getElem?_eq_getElem h'];simp
def lowC (c:UInt8):Bool:=decide (97≤c.toNat) && decide (c.toNat≤122)
def qs5 (c:UInt8):Bool:=lowC c || (decide (48≤c.toNat) && decide (c.toNat≤57)) || decide (c.toNat=95)
def valC (c:UInt8):Bool:=decide (33≤c.toNat) && decide (c.toNat≤126) && decide (c∉[(44:UInt8),61,123,125])
def q6w (s:ByteArray):Bool:=decide (1≤s.size) && decide (s.size≤64) && lowC ((lsB s).headD 0) && (lsB s).all qs5
def Lab.z:Lab:=⟨⟨#[]⟩,⟨#[]⟩⟩
def q4a (l:Lab):Bool:=decide (l.value.size≤64) && (lsB l.value).all valC && q6w l.name
def qge (labs:List Lab)(i:Nat):Bool:=q4a (labs.getD i Lab.z) && (decide (i=0) || Op.bytesLess (labs.getD (i - 1) Lab.z).name.toList (labs.getD i Lab.z).name.toList)
def q3r (name:ByteArray)(labs:List Lab):Bool:=q6w name && decide (labs.length≤8) && (List.range labs.length).all (qge labs)
theorem qj8 {p:Nat→Bool}{n:Nat}:(List.range n).all p=true↔∀i,i < n→p i=true:=by
 rw [z9t];exact⟨fun h i hi=>h i (za7.2 hi),fun h i hi=>h i (za7.1 hi)⟩
theorem z6j {α:Type}{p:α→Bool}{l:List α}(h:∀i (hi:i < l.length),p l[i]=true):l.all p=true:=by
 rw [z9t];intro x hx;obtain⟨i,hi,rfl⟩:=zaw hx;exact h i hi
theorem qvm {α:Type}{p:α→Bool}{l:List α}{i:Nat}(hi:i < l.length)(h:p l[i]=false):l.all p=false:=by
 cases e:l.all p
 ·rfl
 ·rw [z9t] at e;rw [e _ (z90 hi)] at h
  cases h
theorem q8r {α:Type}{l:List α}{i:Nat}(d:α)(h:i < l.length):l.getD i d=l[i]:=by
 rw [zbm,List.getElem?_eq_getElem h]; rfl
theorem qy1 {l:List UInt8}(h:0 < l.length):l.headD 0=l[0]:=by
 cases l with
 | nil=>simp at h
 | cons a l=>rfl
def idxU (c:UInt8)(l:List UInt8):Int:=if l.idxOf c < l.length then (l.idxOf c:Int) else -1
theorem qy2 (c:UInt8):∀l:List UInt8,Go.Lib.indexByte l c=idxU c l
 | []=>rfl
 | b::l=>by
  unfold Go.Lib.indexByte;rw [qy2 c l];unfold idxU;rw [List.idxOf_cons,z8w]
  cases e:(b == c) with
  | true=>simp
  | false=>
   simp only [cond_false,zas,if_false,Nat.add_lt_add_iff_right]
   split
   ·rename_i h;rw [if_neg (by rw [beq_iff_eq]; omega)];omega
   ·rfl
theorem idxU_ge (c:UInt8)(l:List UInt8):-1≤idxU c l∧idxU c l < l.length:=by
 unfold idxU; split <;> omega
theorem idxU_mem (c:UInt8)(l:List UInt8):0≤idxU c l↔c∈l:=by
 unfold idxU;rw [← List.idxOf_lt_length_iff]
 split <;> rename_i h
 ·exact⟨fun _=>h,fun _=>by omega⟩
 ·exact⟨fun h=>by omega,fun h'=>absurd h' h⟩
end Go.Nm
namespace Go.Proofs.YtfmkddccnjidmaaGreatDoor
open Go.Nm
section
variable {F L:List Assn} {H:Heap} {K:Value→Heap→Prop}
theorem natIdx {s:ByteArray}{c:Int}:qho Tryz.prog 283 #[.string s,.int .u8 c] (I64 (idxU c.toNat.toUInt8 (lsB s))):=by
 intro w;have h:(callFunc 283 #[.string s,.int .u8 c]).run Tryz.prog w=(do let v ← Extern.BytealgIndexByte.indexByte #[.string s,.int .u8 c]; pure (Next.value v)).run Tryz.prog w:=by kernel_rfl
 rw [h];have h2:=Go.Lib.run_indexByteString (P:=Tryz.prog) s c w;simp only [Sem.run_bind,h2,qy2];rfl
theorem qks {s:ByteArray}{c:Int}(k:K (I64 (idxU c.toNat.toUInt8 (lsB s))) H):CF 228 #[.string s,.int .u8 c] H K:=
 qce (q4l ⟨_,natIdx,_,rfl,k⟩)
theorem qm0 {s:ByteArray}:q1p Tryz.prog 202 #[.string s] H (.bool (q6w s)):=by
 refine qo5 ?_;refine⟨fun hc=>?_,fun hc=>?_,fun hc=>?_,fun hc=>?_⟩
 ·simp only [z92,z8v] at hc; omega
 ·simp only [z92,z8v] at hc; omega
 ·have:q6w s=false:=by
   cases e:q6w s
   ·rfl
   ·unfold q6w lowC at e;simp only [z8u,z8s] at e;simp only [z94,z8s] at hc;obtain⟨⟨⟨e1,e2⟩,e3,e4⟩,-⟩:=e;have hl:=q57 s;have hb:bAt s 0=((lsB s)[0]'(by omega)).toNat:=qy0 (by omega);have hh:(lsB s).headD 0=(lsB s)[0]'(by omega):=qy1 (by omega);rw [hh] at e3 e4;omega
  rw [this];exact⟨rfl,rfl⟩
 ·simp only [z92,z8v] at hc;obtain⟨⟨⟨c1,c2⟩,c3⟩,c4⟩:=hc;have hl:=q57 s;have hb:bAt s 0=((lsB s)[0]'(by omega)).toNat:=qy0 (by omega);have hh:(lsB s).headD 0=(lsB s)[0]'(by omega):=qy1 (by omega);have hn:q6w s=(lsB s).all qs5:=by
   unfold q6w;rw [hh];unfold lowC;rw [z9a (by omega),z9a (by omega),z9a (by omega),z9a (by omega)];simp
  rw [hn];refine⟨fun i H'=>H'=H∧∃j:Nat,i=j∧j≤s.size∧∀q (hq:q < (lsB s).length),q < j→qs5 (lsB s)[q]=true,fun i _=>s.size - i.toNat,⟨rfl,0,rfl,by omega,fun q _ h=>by omega⟩,?_⟩
  rintro i H1 ⟨rfl,j,rfl,hj,hp⟩;refine⟨fun hc=>?_,fun hc=>?_⟩
  ·have hlt:j < s.size:=by have:=z8q hc; omega
   have hlt':j < (lsB s).length:=by omega
   refine⟨by omega,?_⟩;rw [z8x,qy0 hlt'];refine⟨fun hx=>?_,fun hx=>?_⟩
   ·simp only [z8u,z94,z8s,z98,z8v] at hx;rw [qvm hlt' (by unfold qs5 lowC; simp only [z92,za5,z8v]; omega)];exact⟨rfl,rfl⟩
   ·rw [w64 (x:=(j:Int)+1)];refine⟨⟨rfl,j+1,by omega,hlt,fun q hq hq'=>?_⟩,by dsimp only; omega⟩
    by_cases hqj:q=j
    ·subst hqj;unfold qs5 lowC;simp only [za5,z92,z8v,z9r,z8s] at hx;simp only [z94,z8u,z8s];omega
    ·exact hp q hq (by omega)
  ·have hge:s.size≤j:=by have:=z8t hc; omega
   rw [z6j fun q hq=>hp q hq (by omega)]
   exact⟨rfl,rfl⟩
theorem z1w {l:Lab}(h:SatL H F)(k:∀H',SatL H' F→K (.bool (q4a l)) H'):CF 203 #[.agg #[.string l.name,.string l.value]] H K:=by
 refine qo4 ?_;refine h.al fun b _ h=>?_
 refine⟨_,h.r 0,fun hc=>?_,fun hc=>?_⟩
 ·have:q4a l=false:=by
   unfold q4a;rw [za2 (by have:=z8q hc; omega)];rfl
  rw [← this];exact k _ h.tl
 ·have hs:l.value.size≤64:=by have:=z8t hc; omega
  have hl:=q57 l.value;refine⟨fun i H'=>∃j:Nat,i=j∧j≤l.value.size∧(∀q (hq:q < (lsB l.value).length),q < j→valC (lsB l.value)[q]=true)∧SatL H' (cellsA b [.string l.name,.string l.value] 267::F),fun i _=>l.value.size - i.toNat,⟨0,rfl,by omega,fun q _ h=>by omega,h⟩,?_⟩
  rintro i H1 ⟨j,rfl,hj,hp,h⟩;refine⟨_,h.r 0,fun hc=>?_,fun hc=>?_⟩
  ·have hlt:j < l.value.size:=by have:=z8q hc; omega
   have hlt':j < (lsB l.value).length:=by omega
   refine⟨_,h.r 0,by omega,?_⟩;intro Jn hJ;rw [z8x,qy0 hlt'];have hJ':Jn (!valC (lsB l.value)[j]) H1:=by
    refine hJ _ _ ?_;refine⟨fun hx=>?_,fun hx=>?_⟩
    ·have:q4a l=false:=by
      unfold q4a;rw [qvm hlt' (by simpa using hx)];simp
     rw [← this];exact k _ h.tl
    ·rw [w64 (x:=(j:Int)+1)];refine⟨⟨j+1,by omega,hlt,fun q hq hq'=>?_,h⟩,by dsimp only; omega⟩
     by_cases hqj:q=j
     ·subst hqj; simpa using hx
     ·exact hp q hq (by omega)
   refine⟨fun hx=>?_,fun hx=>?_⟩
   ·simp only [z92,z8v] at hx;refine qks ⟨_,rfl,?_⟩;have:decide (0≤idxU (((lsB l.value)[j].toNat:Int).toNat.toUInt8) (lsB ⟨#[44,61,123,125]⟩))=!valC (lsB l.value)[j]:=by
     rw [z9q,z8s,idxU_mem];have e:((lsB l.value)[j].toNat:Int).toNat.toUInt8=(lsB l.value)[j]:=by simp
     rw [e];unfold valC;rw [z9a (by omega),z9a (by omega)];simp
    dsimp only;rw [this];exact hJ'
   ·have:valC (lsB l.value)[j]=false:=by
     unfold valC;simp only [z92,z8v] at hx;simp only [za5,z8v];omega
    rw [this] at hJ';exact hJ'
  ·have hge:l.value.size≤j:=by have:=z8t hc; omega
   refine⟨_,h.r 0,_,qm0,?_⟩;have:q4a l=q6w l.name:=by
    unfold q4a;rw [z9a hs,z6j fun q hq=>hp q hq (by omega)]
    simp
   rw [← this];exact k _ h.tl
theorem q58 {name:ByteArray}{a:Option Addr}{c:Nat}{labs:List Lab}(h:SatL H F)(ha:∀H,SatL H F→rdS H a (flat encL labs))
  (k:∀H',SatL H' F→K (.bool (q3r name labs)) H'):CF 164 #[.agg #[.string name,.slice a labs.length c]] H K:=by
 refine qbn ?_;refine h.al fun b _ h=>?_
 refine⟨_,h.r 0,_,qm0,_,_,_,fun _=>h.r 0,fun hc=>?_,fun hc=>?_⟩
 ·have:q3r name labs=false:=by
   unfold q3r;simp only [z94,z98,z8s] at hc
   rcases hc with hc|hc
   ·rw [hc]; rfl
   ·rw [za2 (p:=labs.length≤8) (by omega)]; simp
  rw [← this];exact k _ h.tl
 ·simp only [z92,z9r,z8v] at hc;obtain⟨c1,c2⟩:=hc;have hR:q3r name labs=(List.range labs.length).all (qge labs):=by
   unfold q3r;rw [c1,z9a (by omega)];simp
  refine⟨_,_,_,h.r 0,?_⟩;refine⟨fun i H'=>∃j:Nat,i=j∧j≤labs.length∧(∀q,q < j→qge labs q=true)∧SatL H' (cellsA b [.string name,.slice a labs.length c] 93::F),fun i _=>labs.length - i.toNat,⟨0,rfl,by omega,fun q h=>by omega,h⟩,?_⟩
  rintro i H1 ⟨j,rfl,hj,hp,h⟩;refine⟨fun hc=>?_,fun hc=>?_⟩
  ·have hlt:j < labs.length:=by have:=z8q hc; omega
   have hr:=ha _ h.tl;refine⟨by omega,_,_,hr.some q1f (by omega) hlt,_,_,hr.els q1f hlt,?_⟩;refine h.al fun b2 _ h=>?_
   refine h.st 0 rfl rfl ?_;intro H3 h;refine⟨_,_,h.q 0,?_⟩;refine z1w (l:=labs[j]) h fun H4 h=>⟨_,rfl,?_⟩
   have hr:=ha _ h.tl.tl;have hw:0 < j→i64.wrap ((j:Int) - 1)=((j - 1:Nat):Int):=fun h=>by rw [w64]; omega
   have hs:qge labs j=(q4a labs[j] && (decide (j=0) || Op.bytesLess (labs.getD (j - 1) Lab.z).name.toList labs[j].name.toList)):=by
    unfold qge; rw [q8r Lab.z hlt]
   refine⟨a,labs.length,c,fun _=>h.r 1,fun hh=>?_,_,_,fun hh=>hr.some q1f (by omega) hlt,(labs.getD (j - 1) Lab.z).name,fun hh=>?_,labs[j].name,fun _=>h.r 0,fun hc=>?_,fun hc=>?_⟩
   ·have h0:=z8q hh.2;rw [hw (by omega)]; omega
   ·have h0:=z8q hh.2;rw [hw (by omega),z8x];exact hr.el0 q1f (k:=j - 1) (by omega) (by rw [q8r Lab.z (by omega)]; rfl)
   ·have:q3r name labs=false:=by
     rw [hR]
     cases e:(List.range labs.length).all (qge labs)
     ·rfl
     ·rw [qj8] at e;have e:=e j hlt;rw [hs] at e;simp only [z94,z8u,z98,z8s] at e hc
      rcases hc with hc|hc
      ·rw [hc] at e; simp at e
      ·rcases e.2 with e2|e2
       ·omega
       ·rw [hc.2] at e2; simp at e2
    rw [← this];exact k _ h.tl.tl
   ·rw [w64 (x:=(j:Int)+1)];refine⟨⟨j+1,by omega,hlt,fun q hq'=>?_,h.tl⟩,by dsimp only; omega⟩
    by_cases hqj:q=j
    ·subst hqj;rw [hs];simp only [z92,za5,z9r,z8v] at hc;simp only [z94,z8u,z8s];refine⟨hc.1,?_⟩
     rcases hc.2 with e|e
     ·left; omega
     ·right; exact e
    ·exact hp q (by omega)
  ·have hge:labs.length≤j:=by have:=z8t hc; omega
   have:q3r name labs=true:=by rw [hR,qj8]; exact fun q hq=>hp q (by omega)
   rw [← this];exact k _ h.tl
end
end Go.Proofs.YtfmkddccnjidmaaGreatDoor
namespace Go.Nm
def q5u (l:Lab):ByteArray:=(l.name++(⟨#[61]⟩:ByteArray))++l.value
def qck (labs:List Lab):ByteArray:=⟨(Go.Lib.join ((labs.map q5u).map lsB) [44]).toArray⟩
def q68 (name:ByteArray)(labs:List Lab):ByteArray:=
 if q3r name labs then (if labs=[] then name else ((name++(⟨#[123]⟩:ByteArray))++qck labs)++(⟨#[125]⟩:ByteArray)) else ⟨#[]⟩
theorem z1x {α:Type}(f:α→Value)(z:Value)(l:List α)(j:Nat)(h:j < l.length) :
  q1q ((l.take j).map f++List.replicate (l.length - j) z) j [f l[j]]=(l.take (j+1)).map f++List.replicate (l.length - (j+1)) z:=by
 have e:l.length - j=(l.length - (j+1))+1:=by omega
 rw [e,List.replicate_succ];have hl:((l.take j).map f).length=j:=by rw [z9c,z9b]; omega
 have:=q2b [f l[j]] ((l.take j).map f) (z::List.replicate (l.length - (j+1)) z) 0;simp only [hl,zam] at this;rw [this,z9x h,z9h];simp [q1q]
theorem join_le {n:Nat}:∀{xs:List (List UInt8)},(∀x∈xs,x.length≤n)→(Go.Lib.join xs [44]).length≤(n+1)*xs.length
 | [],_=>by simp [Go.Lib.join,List.intercalate]
 | x::r,h=>by
  rw [Go.Lib.join_length];have:∀{l:List (List UInt8)},(∀x∈l,x.length≤n)→Go.Lib.lens l≤n*l.length:=by
   intro l
   induction l with
   | nil=>intro _; simp [Go.Lib.lens]
   | cons y l ih=>
    intro h;have h1:=ih fun x hx=>h x (z96 _ hx)
    have h2:=h y (z95 ..);simp only [Go.Lib.lens,z9m,List.sum_cons,z8w,Nat.mul_succ] at h1 ⊢;omega
  have h1:=this h;simp only [z8w,z9g,z9e,Nat.one_mul,Nat.mul_succ,z9l] at h1 ⊢;omega
theorem q59 (x y:ByteArray):(x++y).size=x.size+y.size:=ByteArray.size_append
theorem q5a {s:ByteArray}(h:q6w s=true):s.size≤64∧1≤s.size:=by
 unfold q6w at h;simp only [z8u,z8s] at h;omega
theorem q5b {l:Lab}(h:q4a l=true):l.name.size≤64∧l.value.size≤64:=by
 unfold q4a at h;simp only [z8u,z8s] at h;exact⟨(q5a h.2).1,h.1.1⟩
theorem z1y (l:Lab):(q5u l).size=l.name.size+1+l.value.size:=by
 unfold q5u; rw [q59,q59]; rfl
structure RightP (name:ByteArray)(labs:List Lab):Prop where
 named:q6w name=true
 len:labs.length≤8
 val:∀l∈labs,q4a l=true
 step:∀i,i < labs.length→qge labs i=true
theorem q7h {name:ByteArray}{labs:List Lab}(h:q3r name labs=true):RightP name labs:=by
 unfold q3r at h;simp only [z8u,z8s,qj8] at h;refine⟨h.1.1,h.1.2,fun l hl=>?_,h.2⟩
 obtain⟨i,hi,rfl⟩:=zaw hl;have:=h.2 i hi;unfold qge at this;rw [q8r Lab.z hi] at this;simp only [z8u] at this;exact this.1
theorem joinL_le {labs:List Lab}(h:∀l∈labs,q4a l=true):(Go.Lib.join ((labs.map q5u).map lsB) [44]).length≤130*labs.length:=by
 have:=join_le (n:=129) (xs:=(labs.map q5u).map lsB) (by
  intro x hx;rw [z9s,z8y] at hx;obtain⟨l,hl,rfl⟩:=hx;have:=q5b (h l hl);show (lsB (q5u l)).length≤129;rw [q57,z1y];omega)
 simpa using this
theorem z1z {labs:List Lab}:(qck labs).size=(Go.Lib.join ((labs.map q5u).map lsB) [44]).length:=by
 unfold qck;show Array.size _=_;simp
theorem rdS_some {H:Heap}{a:Option Addr}{cs:List Value}(h:rdS H a cs)(hl:0 < cs.length):a=some ⟨adrB a,adrO a,none⟩:=(h 0 _ (qda hl)).1
end Go.Nm
namespace Go.Proofs.YtfmkddccnjidmaaGreatDoor
open Go.Nm
theorem Tryz.joinX:Builder.Extra Tryz.prog Tryz.joinA_ren where
 sizeBuilder:=by kernel_rfl
 liesBuilder:=by kernel_rfl
 t5:=Tryz.underlying5
 a5:=Tryz.isAgg5
 z5:=Tryz.sizeOf5
 v5:=Tryz.zeroValue5
 infoByte:=by kernel_rfl
 cellsByte:=by kernel_rfl
 sizeByte:=by kernel_rfl
 neB5:=by decide
section
variable {F L:List Assn} {H:Heap} {K:Value→Heap→Prop}
theorem Join_spec {a:Option Addr}{c:Nat}{xs:List ByteArray}(h:SatL H L)(ha:rdS H a (xs.map fun s=>.string s))(h0:0 < xs.length)(hn:xs.length≤1000000)(hc:xs.length≤c)
  (hlen:(Go.Lib.join (xs.map lsB) [44]).length≤1000000000)
  (k:∀H',SatL H' L→K (.string ⟨(Go.Lib.join (xs.map lsB) [44]).toArray⟩) H'):CF 220 #[.slice a xs.length c,.string ⟨#[44]⟩] H K:=by
 intro w hw;subst hw;have hs:=rdS_some ha (by simpa using h0);rw [hs] at ha ⊢;have hcell:∀(j:Nat) x,xs[j]?=some x→w.cell? ⟨adrB a,adrO a+j,none⟩=some (.string x):=by
  intro j x hj;rw [cell?_cellAt];exact (ha j (.string x) (by rw [q14,List.getElem?_map,hj]; rfl)).2
 have hlt:adrB a < w.heap.size:=by
  have:=hcell 0 xs[0] (List.getElem?_eq_getElem h0);rw [cell?_cellAt] at this;unfold q02 at this
  cases e:w.heap[adrB a]? with
  | none=>rw [e] at this; cases this
  | some o=>exact (Array.getElem?_eq_some_iff.1 e).1
 refine q0t (Any.strings_Join Tryz.joinA Tryz.joinX (adrB a) (adrO a) c xs ⟨#[44]⟩ w hcell hlt (by omega) hc (by show (Go.Lib.join (xs.map lsB) [44]).length≤_; omega)) ?_;rintro e w' ⟨rfl,hb⟩;exact⟨_,rfl,q67 hb,k _ (h.grow (q4h hb))⟩
theorem sl294:SlT Tryz.prog 294 9 1 16:=q9r (by kernel_rfl)
theorem z21 {name:ByteArray}{a:Option Addr}{c:Nat}{labs:List Lab}(h:SatL H F)(ha:∀H,SatL H F→rdS H a (flat encL labs))
  (k:∀H',SatL H' F→K (.string (q68 name labs)) H'):CF 190 #[.agg #[.string name,.slice a labs.length c]] H K:=by
 refine qcf ?_;refine h.al fun b _ h=>?_
 refine⟨_,_,_,_,h.q 0,?_⟩;refine q58 h (fun H h=>ha H h.tl) fun H1 h=>⟨_,rfl,fun hc=>?_,fun hc=>?_⟩
 ·have:q68 name labs=⟨#[]⟩:=by unfold q68; rw [if_neg (by simpa using hc)]
  rw [← this];exact k _ h.tl
 ·simp only [z9r] at hc;have hp:=q7h hc;refine⟨_,_,_,h.r 0,fun hz=>?_,fun hz=>?_⟩
  ·have hz:=z8q hz;have hn:labs=[]:=zbd.1 (by omega);refine⟨_,h.r 0,?_⟩;have:q68 name labs=name:=by unfold q68; rw [if_pos hc,if_pos hn]
   rw [← this];exact k _ h.tl
  ·have hz:=z8t hz;have hl8:=hp.len;refine⟨_,_,_,h.r 0,?_⟩;refine h.mk1 sl294 (z0:=.string ⟨#[]⟩) (by kernel_rfl) (by kernel_rfl) (by omega) (by omega) fun pa H2 h=>?_
   refine⟨_,_,_,rfl,_,_,_,h.r 1,?_⟩;refine⟨fun i H'=>∃j:Nat,i=j∧j≤labs.length∧SatL H' (slA 9 1 pa labs.length labs.length ((labs.take j).map (fun l=>.string (q5u l))++List.replicate (labs.length - j) (Value.string ⟨#[]⟩))::cellsA b [.string name,.slice a labs.length c] 93::F),
    fun i _=>labs.length - i.toNat,⟨0,rfl,by omega,by simpa using h⟩,?_⟩
   rintro i H1 ⟨j,rfl,hj,h⟩;refine⟨fun hc=>?_,fun hc=>?_⟩
   ·have hlt:j < labs.length:=by have:=z8q hc; omega
    have hr:=ha _ h.tl.tl;have hv:=q5b (hp.val _ (z90 hlt));refine⟨by omega,_,_,hr.some q1f (by omega) hlt,_,_,hr.els q1f hlt,?_⟩;refine h.al fun b2 _ h=>?_
    refine h.st 0 rfl rfl ?_;intro H3 h;refine⟨_,h.r 0,?_,_,h.r 0,?_,by omega,?_⟩
    ·show (((labs[j].name.size+1:Nat)):Int)≤9223372036854775807;omega
    ·show ((((labs[j].name++(⟨#[61]⟩:ByteArray)).size+labs[j].value.size:Nat)):Int)≤9223372036854775807;rw [q59];show ((labs[j].name.size+1+labs[j].value.size:Nat):Int)≤9223372036854775807;omega
    ·have hl1:((labs.take j).map (fun l=>Value.string (q5u l))++List.replicate (labs.length - j) (Value.string ⟨#[]⟩)).length=labs.length:=by
      rw [z8r,z9c,z9b,List.length_replicate]; omega
     obtain⟨h1,h2,h3⟩:=h.sl_set 1 rfl j [.string (q5u labs[j])] (by rw [hl1]; simp; omega) (by simp);rw [z1x (fun l=>Value.string (q5u l)) _ labs j hlt] at h3
     rw [z8x];refine⟨_,_,h1,h2,?_⟩;intro H4 hH;rw [w64 (x:=(j:Int)+1)];refine⟨⟨j+1,by omega,hlt,?_⟩,by dsimp only; omega⟩;rw [hH];exact h3.tl
   ·have hge:labs.length≤j:=by have:=z8t hc; omega
    have e1:labs.take j=labs:=z9d hge;have e2:labs.length - j=0:=by omega
    rw [e1,e2,List.replicate_zero,z9o] at h;have hj:=joinL_le hp.val;have hjs:=z1z (labs:=labs);have hns:=q5a hp.named;refine⟨_,h.r 1,?_,?_⟩
    ·show (((name.size+1:Nat)):Int)≤9223372036854775807;omega
    have hrd:=h.sl_rd 0 rfl;have hlm:(labs.map q5u).length=labs.length:=z9c ..;rw [← hlm];refine Join_spec (xs:=labs.map q5u) h (by rw [z9s]; exact hrd) (by omega) (by omega) (by omega) (by omega) fun H5 h=>⟨_,rfl,h.r 1,?_,?_,?_⟩
    ·show (((name++(⟨#[123]⟩:ByteArray)).size+(qck labs).size:Nat):Int)≤9223372036854775807;rw [q59];show (((name.size+1)+(qck labs).size:Nat):Int)≤9223372036854775807;omega
    ·show ((((name++(⟨#[123]⟩:ByteArray))++qck labs).size+1:Nat):Int)≤9223372036854775807;rw [q59,q59];show (((name.size+1)+(qck labs).size+1:Nat):Int)≤9223372036854775807;omega
    ·have:q68 name labs=((name++(⟨#[123]⟩:ByteArray))++qck labs)++(⟨#[125]⟩:ByteArray):=by
      unfold q68;rw [if_pos (by assumption),if_neg (by intro e; rw [e] at hz; simp at hz)]
     have hk:=k _ h.tl.tl;rw [this] at hk;exact hk
end
end Go.Proofs.YtfmkddccnjidmaaGreatDoor
namespace Go.Nm
theorem qae {α:Type}{p:α→Bool}:∀{l:List α} {j:Nat},(∀i (h:i < l.length),i < j→p l[i]=true)→(∀h:j < l.length,p l[j]=false)→l.takeWhile p=l.take j
 | [],j,_,_=>by simp
 | a::r,0,_,h2=>by
  have:p a=false:=h2 (by simp);simp [List.takeWhile,this]
 | a::r,j+1,h1,h2=>by
  have e:p a=true:=h1 0 (by simp) (by omega);simp only [List.takeWhile,e,zaq];rw [qae (fun i h hi=>h1 (i+1) (by simpa using h) (by omega)) fun h=>h2 (by simpa using h)]
theorem qs6 (m:CM)(l r:List Ot):qgw m (l++r)=qgw (qgw m l) r:=by unfold qgw; rw [zay]
end Go.Nm
namespace Go.Proofs.YtfmkddccnjidmaaGreatDoor
open Go.Nm
section
variable {sb mb:Nat} {most:Int} {m:CM} {F L:List Assn} {H:Heap} {K:Value→Heap→Prop}
def clA (sb mb b b1 b2 l:Nat)(most:Int)(m:CM)(before:Int)(R:Loop)(j:Nat)(p:Prop):Assn:=exS fun q:Option Addr × Nat=>
 star [cellsA b [PA sb 0] 112,cellsA b1 [I64 before] 2,cellsA b2 [.slice q.1 ((q0g m).take j).length q.2] 86,slA 64 74 q.1 ((q0g m).take j).length q.2 (flat encO ((q0g m).take j)),
  shC sb mb most,mapC mb (qgw m ((q0g m).take j)),pt l (.loop R),pur p]
abbrev qs7 (m:CM)(before:Int)(j:Nat):Prop:=∀i (h:i < (q0g m).length),i < j→(q0g m)[i].1.win < before
set_option maxHeartbeats 1000000 in
theorem z29 (hl:m.length≤1000000){before:Int}(h:SatL H (shC sb mb most::mapC mb m::F))
  (k:∀a c H',SatL H' (slA 64 74 a (q4m m before).length c (flat encO (q4m m before))::shC sb mb most::mapC mb (qc0 m before)::F)→K (.slice a (q4m m before).length c) H') :
  CF 150 #[PA sb 0,I64 before] H K:=by
 refine qo1 ?_;have hol:(q0g m).length=m.length:=q6v m;refine h.al fun b _ h=>h.al fun b1 _ h=>h.al fun b2 _ h=>⟨_,h.r 2,?_⟩
 refine qfj h fun c0 H3 h=>⟨_,_,rfl,rfl,fun R hR1 hR2 hy=>?_⟩
 have h:=h.rng R;have h:=h.sl_nil 64 74;refine q8q (m:=m) (sb:=sb) (mb:=mb) (most:=most) hl (fun j=>clA sb mb b b1 b2 (H3.size+1) most m before R j (qs7 m before j))
  (fun j=>clA sb mb b b1 b2 (H3.size+1) most m before { R with state:=.done,pending:=some (.exit 0) } j (qs7 m before j∧∀h:j < (q0g m).length,¬(q0g m)[j].1.win < before))
  (star [slA 64 74 none 0 0 [],cellsA b2 [.slice none 0 0] 86,cellsA b1 [I64 before] 2,cellsA b [PA sb 0] 112,pt (H3.size+1) (.loop R)]) (F:=pt H3.size (.deferred (some []))::F) ?_ ?_ ?_ ?_ ?_
 ·have h:=SatL.shut [_,_,_,_,_] (h.o [0,4,5,6,1,3,7,8,2] 9);exact h.o [1,2,3,0,4] 5
 ·intro G H' h;have h:=(SatL.open (A:=[_,_,_,_,_]) (h.o [2,0,1] 3)).pur (p:=qs7 m before 0) (fun i _ hi=>absurd hi (Nat.not_lt_zero i))
  exact q0o.2 ⟨(none,0),SatL.shut [_,_,_,_,_,_,_,_] (h.o [4,3,2,1,6,7,5,0] 8)⟩
 ·intro j hj G H1 K1 h kt kf;obtain⟨⟨a,c⟩,h⟩:=q0o.1 h;have h:=SatL.open (A:=[_,_,_,_,_,_,_,_]) h;have hp:=(SatL.consP (h.o [7] 8)).1;refine hy _ _ _ ?_;refine⟨_,_,_,_,_,_,_,_,_,_,rfl,h.getO 6 rfl,?_⟩;refine h.al fun b3 _ h=>?_
  refine h.sta 0 rfl rfl fun H2 h=>?_
  refine h.al fun b4 _ h=>?_
  refine h.sta 0 rfl (by rw [q2d]; exact (q2d Cl.z).symm) fun H4 h=>⟨h.getO 8 rfl,h.stl 8 rfl fun H5 h=>?_⟩
  refine⟨_,h.r 1,_,h.r 3,fun hc=>?_,fun hc=>?_⟩
  ·have hge:=z8q hc;refine⟨h.getO 8 rfl,kf _ ?_⟩;have h:=h.setO 8 rfl (.loop { R with state:=.done,pending:=some (.exit 0) });have hpp:qs7 m before j∧∀h:j < (q0g m).length,¬(q0g m)[j].1.win < before:=⟨hp,fun _=>by omega⟩
   have h:=(h.o [2,3,4,5,6,7,8] 10).pur hpp;exact q0o.2 ⟨(a,c),SatL.shut [_,_,_,_,_,_,_,_] (h.o [1,2,3,4,5,6,7,0] 8)⟩
  ·have hlt:=z8t hc;refine⟨_,_,_,h.r 4,_,_,h.rda 1 rfl,_,_,_,_,_,_,_,_,h.rda 0 rfl,?_⟩;rintro b5 _ rfl rfl;have htl:((q0g m).take j).length≤1000000:=by rw [z9b]; omega
   refine h.append1 (ws:=encO (q0g m)[j]) sl86 5 rfl (q2j _) (q6d _) (by omega) (by omega) fun a' c' H6 h=>⟨_,_,_,rfl,?_⟩
   refine h.sta 4 rfl rfl fun H7 h=>⟨_,h.r 2,q01 ⟨_,h.r 6,_,_,h.rda 1 rfl,?_⟩⟩
   refine h.mp_delete (x:=(q0g m)[j].1) mtC koK 7 rfl fun H8 h=>⟨h.getO 8 rfl,kt _ ?_⟩
   have h:=h.setO 8 rfl (.loop R);have hpp:qs7 m before (j+1):=fun i hi hi2=>by
    rcases z9f i j with h1|h1
    ·exact hp i hi h1
    ·obtain rfl:i=j:=by omega
     omega
   have h:=(h.o [2,3,4,5,6,7,8] 10).pur hpp;refine q0o.2 ⟨(a',c'),SatL.shut [_,_,_,_,_,_,_,_] ?_⟩;rw [z9x hj,q0k,q7d,qs6,z8r];exact h.o [1,2,3,4,5,6,7,0] 8
 ·intro H1 h;obtain⟨⟨a,c⟩,h⟩:=q0o.1 h;have h:=SatL.open (A:=[_,_,_,_,_,_,_,_]) h;have hp:=(SatL.consP (h.o [7] 8)).1;have ec:q4m m before=(q0g m).take (q0g m).length:=qae (fun i h hi=>z9a (hp i h hi)) fun h=>absurd h (Nat.lt_irrefl _)
  unfold qc0 at k;rw [ec] at k;refine⟨.ready,none,by decide,by rw [q5i hR1 hR2]; exact h.getO 6 rfl,h.stl 6 rfl fun H9 h=>.inl ⟨rfl,?_⟩⟩
  refine⟨_,_,_,h.r 2,h.getO 8 rfl,?_⟩;have h:=h.setO 8 rfl (.deferred none);exact k a c _ (h.o [3,4,5] 9)
 ·intro j H1 hj h;obtain⟨⟨a,c⟩,h⟩:=q0o.1 h;have h:=SatL.open (A:=[_,_,_,_,_,_,_,_]) h;have hp:=(SatL.consP (h.o [7] 8)).1;have ec:q4m m before=(q0g m).take j:=qae (fun i h hi=>z9a (hp.1 i h hi)) fun h=>za2 (hp.2 h)
  unfold qc0 at k;rw [ec] at k;refine⟨.done,some (.exit 0),by decide,h.getO 6 rfl,h.stl 6 rfl fun H9 h=>.inr ⟨rfl,?_⟩⟩
  refine⟨_,_,_,h.r 2,h.getO 8 rfl,?_⟩;have h:=h.setO 8 rfl (.deferred none);exact k a c _ (h.o [3,4,5] 9)
end
end Go.Proofs.YtfmkddccnjidmaaGreatDoor
