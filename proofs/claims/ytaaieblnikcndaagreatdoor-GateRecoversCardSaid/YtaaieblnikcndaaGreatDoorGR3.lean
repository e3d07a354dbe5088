/-
  Lemmas for GateRecovers: part 3 of what it rests on. Conditions: none.
-/
import Derived.Test.YtaaieblnikcndaaGreatDoorGR2
set_option linter.unusedVariables false
set_option linter.unusedSimpArgs false
set_option maxRecDepth 100000
set_option maxHeartbeats 16000000
open Go.IntKind (i64 u64 i8 u8 i32 u32 i16 u16)
namespace Go.Proofs.YtaaieblnikcndaaGreatDoor
open Go
def rP.code(c0b c0o c1b c1o:Nat)(rv:Value)(H:aC)(K:aC->Prop):Prop:=
 ∃eq:Bool,iL Tryz.prog .eql 20 rv .nilIface eq/\
 ∀Jn:fM,(∀H_,(K H_)->Jn H_)->
 IF eq (
 Jn H) (
 ∃a,∃there:Bool,me Tryz.prog (Instr.typeAssert rv 20 335 true) (mq (.agg #[(aB a)]) there)/\
 ∀Jn1:fM,(∀H_1,(Jn H_1)->Jn1 H_1)->
 IF there (
 AL H [(aB 0)] 335 λb H_2=>
 ST H_2 b 0 [(aB a)] λH_3=>
 aO H_3 b 0 λv=>
 ST H_3 c0b c0o zd λH_4=>
 aL H_4 b 0=some (aB v)/\
 ST H_4 c1b c1o [(aB v)] λH_5=>
 Jn1 H_5) (
 ST H c0b c0o zd λH_6=>
 ST H_6 c1b c1o [(aB 10)] λH_7=>
 Jn1 H_7))
theorem rP.defq{c d b a e H K:_}{u f:FrameMode}(j:(u=.returning/\e=.nilIface/\f=.returning)\/(u=bi e false/\f=bi e true))(i:rP.code c d b a e H K):cC Tryz.prog 167 (dv c d b a) u H λh k=>h=f/\K k:=
 y7 (X:=X) (an:=(.seq .reg (.blk (.seq .reg (.condJ [] .reg (.seq .reg (.condJ [] (.seq .reg .reg) (.seq .reg .reg)))))))) X_P rH rI Tryz.func167 j (by kernel_rfl) i
section
variable {a b c d e f g i j k a0 a1 a2 a3 a4 a5 a6 a7 a8 a9 b0 b1 b2 b3 b4 b5 b6 b7 b8 b9 c0 c1 c2 c3 c4 c5 c6 c7 c8 c9 d0 d1 d2 d3 d4 d5 d6 d7 d8 d9 e0 e1 e2 e3 e4 e5 e6 e7 e8 e9 f0 f1 f2 f3 f4 f5 f6 f7 f8 f9 g0 g1 g2 g3 g4 g5 g6 g7 g8 g9 i0 i1 i2 i3 i4 i5 i6 i7 i9 k0 k1 k2 k3 k4 k5 k6 k7 k8 k9 m0 m1 m2 m3 m4 m5 m6 m7 m8 m9 n0:Int}{l m n o p q r n1 n2 n3 n4 n5 n6 n7 n8 n9 o0 o1 o2 o3 o4 o5 o6 o7 o8 o9 p0 p1 p2 p3 p4 p5 p6 p7 p8 p9 q0 q1 q2 q3 q4 q5 q6 q7 q8 q9 s0 s1 s2 s3 s4 s5 s6 s7 s8 s9 t0 t1 t2 t3 t4 t5 t6 t7 t8 t9 u0:Nat}{s t u v u1 u2 u3 u4 u5 u6 u7 u9 v0 v1 v2 v3 v4 v5 v6 v7 v8 v9 w0 w1 w2 w3 w4 w5 w6 w7 w8 w9 x0 x1:KQ}{w x x2 x3 x4 x5 x6 x7 x8 x9 z0 z1 z2 z3 z4 z5 z6:Fa}{y z7 z8 z9 aa ab ac ad ae af ag ai aj ak al am:Bool}{z an ao ap aq ar au av aw:Nat->Int}{az ah ba bb bc bd be bf:Value}{bj bk bl bm bn bo bp bq:Os}{bt bu bv bw bx bz:FuncId}{cb cc cd ce cf cg ci cj ck cl cm cn:Option Nat}{H:aC}{K KP:KE}
theorem Pk(h :
 AL H zd 81 λa c3=>
 AL c3 [aB 0] 50 λb c4=>
 C_p 168 [.slice s l m] c4 λc c5=>
 P_i 169 [.pointer c] c5 (λr1 c6=>
 ST c6 a 0 [aB r1] λc7=>
 C_l 170 [PA a 0] c7 λc8 w k0 c9=>
 ∃(v:fj) (c2:jj),v 0 c9/\
 ∀e d,v e d->
 ID (e<w) (
 IA e w c8 λd0 d1=>
 bC d d0 (d1+e.toNat) λf=>
 C_u 171 [.pointer c] d λr2 d2=>
 NN f (
 ST d2 (aV f) (aS f) [aB (i64.wrap r2)] λx=>
 Q_i 173 [.pointer c] x λr3=>
 mt 172 [aB r3] x (λy=>
 v (i64.wrap (e+1)) y/\c2 (i64.wrap (e+1)) y<c2 e d) (λz d3=>
 bI 167 X.calls=true/\
 cC Tryz.prog 167 (dv a 0 b 0) (bi z false) d3 λd4 g=>d4=bi z true/\
 mw g a 0 λd5=>
 aO g b 0 λd6=>
 K (ei (.agg ⟨d5⟩) d6) g))) (
 aO d a 0 λa0=>
 ∀t:fM,(∀a9,(C_i 177 [.pointer c] a9 λr4 d7=>
 mt 172 [aB r4] d7 (λa1=>
 mw a1 a 0 λd8=>
 C_b 137 [.agg ⟨d8⟩] a1 λr5 a2=>
 ∀c1:fM,(∀r,(mw r a 0 λd9=>
 ST r a 0 d9 λe0=>
 ST e0 b 0 [aB 0] λe1=>
 bI 167 X.calls=true/\
 cC Tryz.prog 167 (dv a 0 b 0) .returning e1 λe2 i=>e2=.returning/\
 mw i a 0 λe3=>
 aO i b 0 λe4=>
 K (ei (.agg ⟨e3⟩) e4) i)->c1 r)->
 IF (!r5) (
 bI 167 X.calls=true/\
 cC Tryz.prog 167 (dv a 0 b 0) (bi (.iface 335 (.agg #[aB 10])) false) a2 λe5 j=>e5=bi (.iface 335 (.agg #[aB 10])) true/\
 mw j a 0 λe6=>
 aO j b 0 λe7=>
 K (ei (.agg ⟨e6⟩) e7) j) (
 c1 a2)) (λa3 e8=>
 bI 167 X.calls=true/\
 cC Tryz.prog 167 (dv a 0 b 0) (bi a3 false) e8 λe9 k=>e9=bi a3 true/\
 mw k a 0 λf0=>
 aO k b 0 λf1=>
 K (ei (.agg ⟨f0⟩) f1) k))->t a9)->
 ID (a0=5) (
 CP 174 ⟨[.pointer c]⟩ d (λf2 f3=>∃b0 b1 b2,f2=(.slice b0 b1 b2)/\
 ST f3 a 10 [.slice b0 b1 b2] λf4=>
 t f4) (λa4 f5=>
 bI 167 X.calls=true/\
 cC Tryz.prog 167 (dv a 0 b 0) (bi a4 false) f5 λf6 n=>f6=bi a4 true/\
 mw n a 0 λf7=>
 aO n b 0 λf8=>
 K (ei (.agg ⟨f7⟩) f8) n)) (
 ∀u:fM,(∀b3,(t b3)->u b3)->
 ID (a0=8) (
 CP 175 ⟨[.pointer c]⟩ d (λf9 g0=>∃b4 b5 b6 b7,f9=(A_sl b4 b5 b6 b7)/\
 ST g0 a 11 (L_sl b4 b5 b6 b7) λg1=>
 CF 176 ⟨(kA c 4096)⟩ g1 λg2 g3=>∃r6,g2=(.string r6)/\
 cB Tryz.prog (convert 9 43 (.string r6)) g3 λg4 g5=>
 ∃b8 b9 c0,g4=(.slice b8 b9 c0)/\
 ST g5 a 13 [.slice b8 b9 c0] λa5=>
 Q_i 173 [.pointer c] a5 λr7=>
 mt 172 [aB r7] a5 (λg6=>
 u g6) (λa6 g7=>
 bI 167 X.calls=true/\
 cC Tryz.prog 167 (dv a 0 b 0) (bi a6 false) g7 λg8 o=>g8=bi a6 true/\
 mw o a 0 λg9=>
 aO o b 0 λi0=>
 K (ei (.agg ⟨g9⟩) i0) o)) (λa7 i1=>
 bI 167 X.calls=true/\
 cC Tryz.prog 167 (dv a 0 b 0) (bi a7 false) i1 λi2 p=>i2=bi a7 true/\
 mw p a 0 λi3=>
 aO p b 0 λi4=>
 K (ei (.agg ⟨i3⟩) i4) p)) (
 u d)))) (λa8 i5=>
 bI 167 X.calls=true/\
 cC Tryz.prog 167 (dv a 0 b 0) (bi a8 false) i5 λi6 q=>i6=bi a8 true/\
 mw q a 0 λi7=>
 aO q b 0 λi9=>
 K (ei (.agg ⟨i7⟩) i9) q)):CF 80 ⟨[.slice s l m]⟩ H K:=cE 0x2424242422456242399252424442245247424724244924224749249 [[],[],[],[(16, sI)]] h
end
section
variable {a b c d e f g i j k a0 a1 a2 a3 a4 a5 a6 a7 a8 a9 b0 b1 b2 b3 b4 b5 b6 b7 b8 b9 c0 c1 c2 c3 c4 c5 c6 c7 c8 c9 d0 d1 d2 d3 d4 d5 d6 d7 d8 d9 e0 e1 e2 e3 e4 e5 e6 e7 e8 e9 f0 f1 f2 f3 f4 f5 f6 f7 f8 f9 g0 g1 g2 g3 g4 g5 g6 g7 g8 g9 i0 i1 i2 i3 i4 i5 i6 i7 i9 k0 k1 k2 k3 k4 k5 k6 k7 k8 k9 m0 m1 m2 m3 m4 m5 m6 m7 m8 m9 n0:Int}{l m n o p q r n1 n2 n3 n4 n5 n6 n7 n8 n9 o0 o1 o2 o3 o4 o5 o6 o7 o8 o9 p0 p1 p2 p3 p4 p5 p6 p7 p8 p9 q0 q1 q2 q3 q4 q5 q6 q7 q8 q9 s0 s1 s2 s3 s4 s5 s6 s7 s8 s9 t0 t1 t2 t3 t4 t5 t6 t7 t8 t9 u0:Nat}{s t u v u1 u2 u3 u4 u5 u6 u7 u9 v0 v1 v2 v3 v4 v5 v6 v7 v8 v9 w0 w1 w2 w3 w4 w5 w6 w7 w8 w9 x0 x1:KQ}{w x x2 x3 x4 x5 x6 x7 x8 x9 z0 z1 z2 z3 z4 z5 z6:Fa}{y z7 z8 z9 aa ab ac ad ae af ag ai aj ak al am:Bool}{z an ao ap aq ar au av aw:Nat->Int}{az ah ba bb bc bd be bf:Value}{bj bk bl bm bn bo bp bq:Os}{bt bu bv bw bx bz:FuncId}{cb cc cd ce cf cg ci cj ck cl cm cn:Option Nat}{H:aC}{K KP:KE}
theorem Pl(h :
 AL H (L_i13 a b c d e f g i j k a0 a1 a2) 25 λy d9=>
 C_b 7 [] d9 λe0 a6=>
 IF (!e0) (
 K (.bool false) a6) (
 wi a6 y 0 λe1=>
 C_b 8 (L_vl (.agg ⟨e1⟩) s l m) a6 λr1 a7=>
 IF r1 (
 K (.bool true) a7) (
 wi a7 y 0 λe2=>
 C_Tpp_ 9 [.agg ⟨e2⟩] a7 λr2 r3 a8=>
 IF (r2.isNone||r3.isNone) (
 wi a8 y 0 λe3=>
 C_Wi13_ 10 [.agg ⟨e3⟩] a8 λe4 e5=>
 C_b 11 [.agg ⟨e4⟩] e5 λe6 e7=>
 K (.bool (!e6)) e7) (
 C_p 12 [.pointer r2] a8 λe8 e9=>
 AL e9 [.pointer e8] 40 λf0 f1=>
 ∃(c7:Oe) (d7:Of),c7 r2 (some ⟨f0,0,none⟩) 1 1 0 0 f1/\
 ∀q z u a3 b0 p v,c7 q z u a3 b0 p v->
 ID (p<l) (
 ∀c2:Od,(∀b1 b2 b3 b4 b5 b6,(c7 b1 b2 b3 b4 b5 (i64.wrap (p+1)) b6/\d7 b1 b2 b3 b4 b5 (i64.wrap (p+1)) b6<d7 q z u a3 b0 p v)->c2 b1 b2 b3 b4 b5 b6)->
 IA p l s λf2 f3=>
 Ge v f2 (f3+p.toNat*6) λf4=>
 AL v ZL_i5n 45 λr f5=>
 ST f5 r 0 f4 λa9=>
 aO a9 r 0 λf6=>
 ∀c3:fj,(∀b7 b8,(Ge b8 r 0 λf7=>
 C_b 14 (L_pv q (.agg ⟨f7⟩)) b8 λf8 c9=>
 ∀c4:zc,(∀a4 w d5 x,(aO x r 0 λf9=>
 IN (f9=4) (
 c2 q a4 w d5 b7 x) (
 aO x r 4 λg0=>
 C_T_ 15 (kA r3 g0) x λd0=>
 wi d0 y 0 λg1=>
 Gc 16 (L_pv r3 (.agg ⟨g1⟩)) d0 λt m7 m8 m9 g2 d1=>
 ∀c5:J_bHP,(∀d6 b9,(IF d6 (
 K (.bool false) b9) (
 C_p 12 [.pointer t] b9 λg3 g4=>
 C_l 17 [.pointer g3] g4 λg5 g6 g7 g8=>
 ∃(c8:J_biHP) (d8:J_biHn),c8 false b7 g8/\
 ∀a5 n o,c8 a5 n o->
 IF ((decide (n<w))&&(!a5)) (
 IA n w a4 λg9 i0=>
 bC o g9 (i0+n.toNat) λi1=>
 IF i1.isNone (
 K (.bool false) o) (
 IA n w a4 λi2 i3=>
 bC o i2 (i3+n.toNat) λi4=>
 C_p 18 [.pointer i4] o λd2 i5=>
 tK 19 (L_pv d2 (A_i11n 1 0 0 0 0 0 0 0 0 0 0)) i5 λn0 n1 n2 i6 d3=>
 ∀c6:J_bHP,(∀c0 c1,(c8 c0 (i64.wrap (n+1)) c1/\d8 c0 (i64.wrap (n+1)) c1<d8 a5 n o)->c6 c0 c1)->
 JF ((decide (i6=0))=true) (
 C_l 17 [.pointer d2] d3 λi7 i9 k0 d4=>
 Q_b 20 (fE i7 i9 k0 g5 g6 g7) d4 λk1=>
 c6 k1 d4) (
 c6 false d3))) (
 IF (!a5) (
 K (.bool false) o) (
 C_p 12 [.pointer t] o λk2 k3=>
 AL k3 [.pointer k2] 40 λk4 k5=>
 c2 t (some ⟨k4,0,none⟩) 1 1 0 k5))))->c5 d6 b9)->
 JF (((!decide (g2=0))||t.isNone)=false) (
 C_p 12 [.pointer t] d1 λk6 k7=>
 c5 k6.isNone k7) (
 c5 true d1)))->c4 a4 w d5 x)->
 IF f8 (
 C_p 12 [.pointer q] c9 λk8 k9=>
 AL k9 [.pointer k8] 40 λm0 m1=>
 AP #[42,42] 42 (fE z u a3 (some ⟨m0,0,none⟩) 1 1) m1 λm2 m3 m4 m5=>
 c4 m2 m3 m4 m5) (
 c4 z u a3 c9))->c3 b7 b8)->
 ID (f6=3) (
 C_l 13 [.pointer q] a9 λn3 n4 n5 m6=>
 c3 (i64.wrap ((u:Int)-1)) m6) (
 c3 b0 a9)) (
 K (.bool true) v))))):CF 3 ⟨(L_vl (A_i13 a b c d e f g i j k a0 a1 a2) s l m)⟩ H K:=cE 0x1dd1d112156213992a12171492174921399112283c91121562139925d1184d1144c [[(15,sB)],[(15,sB),(16,sI)],[(93,sB)],[(7,sS)],[(8,sI)],[(5,sP),(7,sS),(8,sI)],[(5,sP),(7,sS),(8,sI),(9,sI)]] h
end
open Go.Shelf
def Tryz.keysA_ren:Go.Shelf.Ren:=⟨fun|7=>117|10=>215|n=>n,fun|23=>256|26=>2|3=>149|28=>262|0=>0|27=>261|33=>329|4=>4|n=>n,fun|n=>n⟩
theorem Tryz.keysA:Go.Proofs.SlLaysZI.n7 Tryz.prog Tryz.keysA_ren:={
 mixed:=by kernel_rfl
 f7:=⟨Tryz.f117.name,by decide,zt Tryz.func117⟩
 f10:=⟨Tryz.f215.name,by decide,zt Tryz.func215⟩
 t0:=Tryz.underlying0
 a0:=Tryz.isAgg0
 z0:=Tryz.sizeOf0
 v0:=Tryz.zeroValue0
 t4:=Tryz.underlying4
 a4:=Tryz.isAgg4
 z4:=Tryz.sizeOf4
 v4:=Tryz.zeroValue4
 t23:=Tryz.underlying256
 a23:=Tryz.isAgg256
 z23:=Tryz.sizeOf256
 v23:=Tryz.zeroValue256
 t26:=Tryz.underlying2
 a26:=Tryz.isAgg2
 z26:=Tryz.sizeOf2
 v26:=Tryz.zeroValue2
 t27:=Tryz.underlying261
 a27:=Tryz.isAgg261
 z27:=Tryz.sizeOf261
 v27:=Tryz.zeroValue261
 t28:=Tryz.underlying262
 a28:=Tryz.isAgg262
 z28:=Tryz.sizeOf262
 v28:=Tryz.zeroValue262
 t33:=Tryz.underlying329
 a33:=Tryz.isAgg329
 z33:=Tryz.sizeOf329
 v33:=Tryz.zeroValue329 }
def Tryz.keysA2_ren:Go.Shelf.Ren:=⟨fun|7=>216|10=>270|n=>n,fun|23=>291|26=>2|3=>99|28=>262|0=>0|27=>261|33=>329|4=>4|n=>n,fun|n=>n⟩
theorem Tryz.keysA2:Go.Proofs.SlLaysZI.n7 Tryz.prog Tryz.keysA2_ren:={
 mixed:=by kernel_rfl
 f7:=⟨Tryz.f216.name,by decide,zt Tryz.func216⟩
 f10:=⟨Tryz.f270.name,by decide,zt Tryz.func270⟩
 t0:=Tryz.underlying0
 a0:=Tryz.isAgg0
 z0:=Tryz.sizeOf0
 v0:=Tryz.zeroValue0
 t4:=Tryz.underlying4
 a4:=Tryz.isAgg4
 z4:=Tryz.sizeOf4
 v4:=Tryz.zeroValue4
 t23:=Tryz.underlying291
 a23:=Tryz.isAgg291
 z23:=Tryz.sizeOf291
 v23:=Tryz.zeroValue291
 t26:=Tryz.underlying2
 a26:=Tryz.isAgg2
 z26:=Tryz.sizeOf2
 v26:=Tryz.zeroValue2
 t27:=Tryz.underlying261
 a27:=Tryz.isAgg261
 z27:=Tryz.sizeOf261
 v27:=Tryz.zeroValue261
 t28:=Tryz.underlying262
 a28:=Tryz.isAgg262
 z28:=Tryz.sizeOf262
 v28:=Tryz.zeroValue262
 t33:=Tryz.underlying329
 a33:=Tryz.isAgg329
 z33:=Tryz.sizeOf329
 v33:=Tryz.zeroValue329 }
def Tryz.keysA3_ren:Go.Shelf.Ren:=⟨fun|7=>296|10=>338|n=>n,fun|23=>250|26=>2|3=>185|28=>262|0=>0|27=>261|33=>329|4=>4|n=>n,fun|n=>n⟩
theorem Tryz.keysA3:Go.Proofs.SlLaysZI.n7 Tryz.prog Tryz.keysA3_ren:={
 mixed:=by kernel_rfl
 f7:=⟨Tryz.f296.name,by decide,zt Tryz.func296⟩
 f10:=⟨Tryz.f338.name,by decide,zt Tryz.func338⟩
 t0:=Tryz.underlying0
 a0:=Tryz.isAgg0
 z0:=Tryz.sizeOf0
 v0:=Tryz.zeroValue0
 t4:=Tryz.underlying4
 a4:=Tryz.isAgg4
 z4:=Tryz.sizeOf4
 v4:=Tryz.zeroValue4
 t23:=Tryz.underlying250
 a23:=Tryz.isAgg250
 z23:=Tryz.sizeOf250
 v23:=Tryz.zeroValue250
 t26:=Tryz.underlying2
 a26:=Tryz.isAgg2
 z26:=Tryz.sizeOf2
 v26:=Tryz.zeroValue2
 t27:=Tryz.underlying261
 a27:=Tryz.isAgg261
 z27:=Tryz.sizeOf261
 v27:=Tryz.zeroValue261
 t28:=Tryz.underlying262
 a28:=Tryz.isAgg262
 z28:=Tryz.sizeOf262
 v28:=Tryz.zeroValue262
 t33:=Tryz.underlying329
 a33:=Tryz.isAgg329
 z33:=Tryz.sizeOf329
 v33:=Tryz.zeroValue329 }
def Tryz.sortedA_ren:Go.Shelf.Ren:=⟨fun|6=>116|8=>213|9=>214|11=>267|13=>269|12=>268|23=>314|24=>315|14=>305|15=>306|16=>307|17=>308|18=>309|19=>310|20=>311|21=>312|22=>313|25=>353|26=>354|27=>355|28=>356|29=>357|30=>273|31=>376|n=>n,fun|26=>2|28=>262|24=>248|0=>0|3=>3|37=>332|48=>331|50=>155|4=>4|40=>494|39=>493|45=>498|5=>5|9=>9|51=>537|55=>540|57=>548|58=>549|33=>329|n=>n,fun|n=>n⟩
theorem Tryz.sortedA:Go.Proofs.SlLaysZI.n6 Tryz.prog Tryz.sortedA_ren:={
 mixed:=by kernel_rfl
 f6:=⟨Tryz.f116.name,by decide,zt Tryz.func116⟩
 f8:=⟨Tryz.f213.name,by decide,zt Tryz.func213⟩
 f11:=⟨Tryz.f267.name,by decide,zt Tryz.func267⟩
 t0:=Tryz.underlying0
 a0:=Tryz.isAgg0
 z0:=Tryz.sizeOf0
 v0:=Tryz.zeroValue0
 t24:=Tryz.underlying248
 a24:=Tryz.isAgg248
 z24:=Tryz.sizeOf248
 v24:=Tryz.zeroValue248
 t26:=Tryz.underlying2
 a26:=Tryz.isAgg2
 z26:=Tryz.sizeOf2
 v26:=Tryz.zeroValue2
 t28:=Tryz.underlying262
 a28:=Tryz.isAgg262
 z28:=Tryz.sizeOf262
 v28:=Tryz.zeroValue262
 i26:=by kernel_rfl }
def Tryz.sortA_ren:Go.Shelf.Ren:=⟨fun|5=>214|8=>269|7=>268|19=>314|20=>315|10=>305|11=>306|12=>307|13=>308|14=>309|15=>310|16=>311|17=>312|18=>313|30=>353|31=>354|32=>355|33=>356|34=>357|35=>273|40=>376|n=>n,fun|23=>248|25=>2|3=>3|32=>332|22=>248|0=>0|44=>331|46=>155|4=>4|36=>494|35=>493|41=>498|5=>5|9=>9|53=>537|57=>540|63=>548|64=>549|n=>n,fun|n=>n⟩
theorem Tryz.sortA:Go.Proofs.SlLaysM.n5 Tryz.prog Tryz.sortA_ren:={
 mixed:=by kernel_rfl
 f5:=⟨Tryz.f214.name,by decide,zt Tryz.func214⟩
 f7:=⟨Tryz.f268.name,by decide,zt Tryz.func268⟩
 f8:=zt Tryz.func269
 f10:=⟨Tryz.f305.name,by decide,zt Tryz.func305⟩
 f11:=⟨Tryz.f306.name,by decide,zt Tryz.func306⟩
 f12:=⟨Tryz.f307.name,by decide,zt Tryz.func307⟩
 f13:=⟨Tryz.f308.name,by decide,zt Tryz.func308⟩
 f14:=⟨Tryz.f309.name,by decide,zt Tryz.func309⟩
 f15:=⟨Tryz.f310.name,by decide,zt Tryz.func310⟩
 f16:=⟨Tryz.f311.name,by decide,zt Tryz.func311⟩
 f17:=⟨Tryz.f312.name,by decide,zt Tryz.func312⟩
 f18:=⟨Tryz.f313.name,by decide,zt Tryz.func313⟩
 f19:=zt Tryz.func314
 f20:=zt Tryz.func315
 f30:=⟨Tryz.f353.name,by decide,zt Tryz.func353⟩
 f31:=zt Tryz.func354
 f32:=zt Tryz.func355
 f33:=⟨Tryz.f356.name,by decide,zt Tryz.func356⟩
 f34:=⟨Tryz.f357.name,by decide,zt Tryz.func357⟩
 f35:=⟨Tryz.f273.name,by decide,zt Tryz.func273⟩
 f40:=⟨Tryz.f376.name,by decide,zt Tryz.func376⟩
 t0:=Tryz.underlying0
 a0:=Tryz.isAgg0
 z0:=Tryz.sizeOf0
 v0:=Tryz.zeroValue0
 t3:=Tryz.underlying3
 a3:=Tryz.isAgg3
 z3:=Tryz.sizeOf3
 v3:=Tryz.zeroValue3
 t4:=Tryz.underlying4
 a4:=Tryz.isAgg4
 z4:=Tryz.sizeOf4
 v4:=Tryz.zeroValue4
 t5:=Tryz.underlying5
 a5:=Tryz.isAgg5
 z5:=Tryz.sizeOf5
 v5:=Tryz.zeroValue5
 t9:=Tryz.underlying9
 a9:=Tryz.isAgg9
 z9:=Tryz.sizeOf9
 v9:=Tryz.zeroValue9
 t22:=Tryz.underlying248
 a22:=Tryz.isAgg248
 z22:=Tryz.sizeOf248
 v22:=Tryz.zeroValue248
 t23:=Tryz.underlying248
 a23:=Tryz.isAgg248
 z23:=Tryz.sizeOf248
 v23:=Tryz.zeroValue248
 t25:=Tryz.underlying2
 a25:=Tryz.isAgg2
 z25:=Tryz.sizeOf2
 v25:=Tryz.zeroValue2
 t32:=Tryz.underlying332
 a32:=Tryz.isAgg332
 z32:=Tryz.sizeOf332
 v32:=Tryz.zeroValue332
 t35:=Tryz.underlying493
 a35:=Tryz.isAgg493
 z35:=Tryz.sizeOf493
 v35:=Tryz.zeroValue493
 t36:=Tryz.underlying494
 a36:=Tryz.isAgg494
 z36:=Tryz.sizeOf494
 v36:=Tryz.zeroValue494
 t41:=Tryz.underlying498
 a41:=Tryz.isAgg498
 z41:=Tryz.sizeOf498
 v41:=Tryz.zeroValue498
 t44:=Tryz.underlying331
 a44:=Tryz.isAgg331
 z44:=Tryz.sizeOf331
 v44:=Tryz.zeroValue331
 t46:=Tryz.underlying155
 a46:=Tryz.isAgg155
 z46:=Tryz.sizeOf155
 v46:=Tryz.zeroValue155
 t53:=Tryz.underlying537
 a53:=Tryz.isAgg537
 z53:=Tryz.sizeOf537
 v53:=Tryz.zeroValue537
 t57:=Tryz.underlying540
 a57:=Tryz.isAgg540
 z57:=Tryz.sizeOf540
 v57:=Tryz.zeroValue540
 t63:=Tryz.underlying548
 a63:=Tryz.isAgg548
 z63:=Tryz.sizeOf548
 v63:=Tryz.zeroValue548
 t64:=Tryz.underlying549
 a64:=Tryz.isAgg549
 z64:=Tryz.sizeOf549
 v64:=Tryz.zeroValue549 }
def Tryz.cloneA_ren:Go.Shelf.Ren:=⟨fun|5=>115|7=>212|n=>n,fun|23=>256|25=>2|3=>149|4=>4|20=>20|n=>n,fun|n=>n⟩
theorem Tryz.cloneA:Go.Proofs.SlLaysW.n5 Tryz.prog Tryz.cloneA_ren:={
 mixed:=by kernel_rfl
 f5:=⟨Tryz.f115.name,by decide,zt Tryz.func115⟩
 f7:=zt Tryz.func212
 t4:=Tryz.underlying4
 a4:=Tryz.isAgg4
 z4:=Tryz.sizeOf4
 v4:=Tryz.zeroValue4
 t20:=Tryz.underlying20
 a20:=Tryz.isAgg20
 z20:=Tryz.sizeOf20
 v20:=Tryz.zeroValue20
 t23:=Tryz.underlying256
 a23:=Tryz.isAgg256
 z23:=Tryz.sizeOf256
 v23:=Tryz.zeroValue256 }
def Tryz.cloneA2_ren:Go.Shelf.Ren:=⟨fun|5=>133|7=>212|n=>n,fun|23=>250|25=>2|3=>185|4=>4|20=>20|n=>n,fun|n=>n⟩
theorem Tryz.cloneA2:Go.Proofs.SlLaysW.n5 Tryz.prog Tryz.cloneA2_ren:={
 mixed:=by kernel_rfl
 f5:=⟨Tryz.f133.name,by decide,zt Tryz.func133⟩
 f7:=zt Tryz.func212
 t4:=Tryz.underlying4
 a4:=Tryz.isAgg4
 z4:=Tryz.sizeOf4
 v4:=Tryz.zeroValue4
 t20:=Tryz.underlying20
 a20:=Tryz.isAgg20
 z20:=Tryz.sizeOf20
 v20:=Tryz.zeroValue20
 t23:=Tryz.underlying250
 a23:=Tryz.isAgg250
 z23:=Tryz.sizeOf250
 v23:=Tryz.zeroValue250 }
def Tryz.cloneA3_ren:Go.Shelf.Ren:=⟨fun|5=>135|7=>212|n=>n,fun|23=>291|25=>2|3=>99|4=>4|20=>20|n=>n,fun|n=>n⟩
theorem Tryz.cloneA3:Go.Proofs.SlLaysW.n5 Tryz.prog Tryz.cloneA3_ren:={
 mixed:=by kernel_rfl
 f5:=⟨Tryz.f135.name,by decide,zt Tryz.func135⟩
 f7:=zt Tryz.func212
 t4:=Tryz.underlying4
 a4:=Tryz.isAgg4
 z4:=Tryz.sizeOf4
 v4:=Tryz.zeroValue4
 t20:=Tryz.underlying20
 a20:=Tryz.isAgg20
 z20:=Tryz.sizeOf20
 v20:=Tryz.zeroValue20
 t23:=Tryz.underlying291
 a23:=Tryz.isAgg291
 z23:=Tryz.sizeOf291
 v23:=Tryz.zeroValue291 }
def Tryz.joinB_ren:Go.Shelf.Ren:=⟨fun|14=>255|15=>298|n=>n,fun|26=>224|22=>43|3=>3|4=>4|0=>0|9=>9|20=>20|5=>5|n=>n,fun|n=>n⟩
theorem Tryz.joinB:Go.Proofs.SlLaysJ.n14 Tryz.prog Tryz.joinB_ren:={
 mixed:=by kernel_rfl
 f14:=zt Tryz.func255
 f15:=zt Tryz.func298
 t0:=Tryz.underlying0
 a0:=Tryz.isAgg0
 z0:=Tryz.sizeOf0
 v0:=Tryz.zeroValue0
 t3:=Tryz.underlying3
 a3:=Tryz.isAgg3
 z3:=Tryz.sizeOf3
 v3:=Tryz.zeroValue3
 t4:=Tryz.underlying4
 a4:=Tryz.isAgg4
 z4:=Tryz.sizeOf4
 v4:=Tryz.zeroValue4
 t9:=Tryz.underlying9
 a9:=Tryz.isAgg9
 z9:=Tryz.sizeOf9
 v9:=Tryz.zeroValue9
 t20:=Tryz.underlying20
 a20:=Tryz.isAgg20
 z20:=Tryz.sizeOf20
 v20:=Tryz.zeroValue20
 t22:=Tryz.underlying43
 a22:=Tryz.isAgg43
 z22:=Tryz.sizeOf43
 v22:=Tryz.zeroValue43
 t26:=Tryz.underlying224
 a26:=Tryz.isAgg224
 z26:=Tryz.sizeOf224
 v26:=Tryz.zeroValue224
 t5:=Tryz.underlying5
 z5:=Tryz.sizeOf5
 i5:=by kernel_rfl }
open Go.Shelf
def Tryz.sortI_ren:Go.Shelf.Ren:=⟨fun|5=>256|8=>269|7=>299|19=>314|20=>315|10=>339|11=>340|12=>341|13=>342|14=>343|15=>344|16=>345|17=>346|18=>347|30=>368|31=>354|32=>355|33=>369|34=>370|35=>371|40=>380|n=>n,fun|23=>377|25=>3|3=>3|32=>332|22=>377|0=>0|44=>331|46=>155|4=>4|36=>494|35=>493|41=>498|5=>5|9=>9|53=>537|57=>540|63=>548|64=>549|n=>n,fun|n=>n⟩
theorem Tryz.sortI:Go.Proofs.SlLaysM.n5 Tryz.prog Tryz.sortI_ren:={
 mixed:=by kernel_rfl
 f5:=⟨Tryz.f256.name,by decide,zt Tryz.func256⟩
 f7:=⟨Tryz.f299.name,by decide,zt Tryz.func299⟩
 f8:=zt Tryz.func269
 f10:=⟨Tryz.f339.name,by decide,zt Tryz.func339⟩
 f11:=⟨Tryz.f340.name,by decide,zt Tryz.func340⟩
 f12:=⟨Tryz.f341.name,by decide,zt Tryz.func341⟩
 f13:=⟨Tryz.f342.name,by decide,zt Tryz.func342⟩
 f14:=⟨Tryz.f343.name,by decide,zt Tryz.func343⟩
 f15:=⟨Tryz.f344.name,by decide,zt Tryz.func344⟩
 f16:=⟨Tryz.f345.name,by decide,zt Tryz.func345⟩
 f17:=⟨Tryz.f346.name,by decide,zt Tryz.func346⟩
 f18:=⟨Tryz.f347.name,by decide,zt Tryz.func347⟩
 f19:=zt Tryz.func314
 f20:=zt Tryz.func315
 f30:=⟨Tryz.f368.name,by decide,zt Tryz.func368⟩
 f31:=zt Tryz.func354
 f32:=zt Tryz.func355
 f33:=⟨Tryz.f369.name,by decide,zt Tryz.func369⟩
 f34:=⟨Tryz.f370.name,by decide,zt Tryz.func370⟩
 f35:=⟨Tryz.f371.name,by decide,zt Tryz.func371⟩
 f40:=⟨Tryz.f380.name,by decide,zt Tryz.func380⟩
 t0:=Tryz.underlying0
 a0:=Tryz.isAgg0
 z0:=Tryz.sizeOf0
 v0:=Tryz.zeroValue0
 t3:=Tryz.underlying3
 a3:=Tryz.isAgg3
 z3:=Tryz.sizeOf3
 v3:=Tryz.zeroValue3
 t4:=Tryz.underlying4
 a4:=Tryz.isAgg4
 z4:=Tryz.sizeOf4
 v4:=Tryz.zeroValue4
 t5:=Tryz.underlying5
 a5:=Tryz.isAgg5
 z5:=Tryz.sizeOf5
 v5:=Tryz.zeroValue5
 t9:=Tryz.underlying9
 a9:=Tryz.isAgg9
 z9:=Tryz.sizeOf9
 v9:=Tryz.zeroValue9
 t22:=Tryz.underlying377
 a22:=Tryz.isAgg377
 z22:=Tryz.sizeOf377
 v22:=Tryz.zeroValue377
 t23:=Tryz.underlying377
 a23:=Tryz.isAgg377
 z23:=Tryz.sizeOf377
 v23:=Tryz.zeroValue377
 t25:=Tryz.underlying3
 a25:=Tryz.isAgg3
 z25:=Tryz.sizeOf3
 v25:=Tryz.zeroValue3
 t32:=Tryz.underlying332
 a32:=Tryz.isAgg332
 z32:=Tryz.sizeOf332
 v32:=Tryz.zeroValue332
 t35:=Tryz.underlying493
 a35:=Tryz.isAgg493
 z35:=Tryz.sizeOf493
 v35:=Tryz.zeroValue493
 t36:=Tryz.underlying494
 a36:=Tryz.isAgg494
 z36:=Tryz.sizeOf494
 v36:=Tryz.zeroValue494
 t41:=Tryz.underlying498
 a41:=Tryz.isAgg498
 z41:=Tryz.sizeOf498
 v41:=Tryz.zeroValue498
 t44:=Tryz.underlying331
 a44:=Tryz.isAgg331
 z44:=Tryz.sizeOf331
 v44:=Tryz.zeroValue331
 t46:=Tryz.underlying155
 a46:=Tryz.isAgg155
 z46:=Tryz.sizeOf155
 v46:=Tryz.zeroValue155
 t53:=Tryz.underlying537
 a53:=Tryz.isAgg537
 z53:=Tryz.sizeOf537
 v53:=Tryz.zeroValue537
 t57:=Tryz.underlying540
 a57:=Tryz.isAgg540
 z57:=Tryz.sizeOf540
 v57:=Tryz.zeroValue540
 t63:=Tryz.underlying548
 a63:=Tryz.isAgg548
 z63:=Tryz.sizeOf548
 v63:=Tryz.zeroValue548
 t64:=Tryz.underlying549
 a64:=Tryz.isAgg549
 z64:=Tryz.sizeOf549
 v64:=Tryz.zeroValue549 }
open Go.Shelf
def Tryz.sortKA_ren:Go.Shelf.Ren:=⟨fun|6=>218|15=>269|14=>272|28=>314|29=>315|20=>316|21=>317|22=>318|23=>319|24=>320|25=>321|26=>322|27=>323|46=>358|47=>354|48=>355|49=>359|50=>360|57=>377|n=>n,fun|22=>277|24=>154|25=>282|3=>3|39=>332|0=>0|53=>331|55=>155|4=>4|46=>494|45=>493|50=>498|5=>5|9=>9|66=>537|70=>540|76=>548|77=>549|n=>n,fun|n=>n⟩
theorem Tryz.sortKA:Go.Proofs.SlLaysF0.n6 Tryz.prog Tryz.sortKA_ren:={
 mixed:=by kernel_rfl
 f6:=⟨Tryz.f218.name,by decide,zt Tryz.func218⟩
 f14:=⟨Tryz.f272.name,by decide,zt Tryz.func272⟩
 f15:=zt Tryz.func269
 f20:=⟨Tryz.f316.name,by decide,zt Tryz.func316⟩
 f21:=⟨Tryz.f317.name,by decide,zt Tryz.func317⟩
 f22:=⟨Tryz.f318.name,by decide,zt Tryz.func318⟩
 f23:=⟨Tryz.f319.name,by decide,zt Tryz.func319⟩
 f24:=⟨Tryz.f320.name,by decide,zt Tryz.func320⟩
 f25:=⟨Tryz.f321.name,by decide,zt Tryz.func321⟩
 f26:=⟨Tryz.f322.name,by decide,zt Tryz.func322⟩
 f27:=⟨Tryz.f323.name,by decide,zt Tryz.func323⟩
 f28:=zt Tryz.func314
 f29:=zt Tryz.func315
 f46:=⟨Tryz.f358.name,by decide,zt Tryz.func358⟩
 f47:=zt Tryz.func354
 f48:=zt Tryz.func355
 f49:=⟨Tryz.f359.name,by decide,zt Tryz.func359⟩
 f50:=⟨Tryz.f360.name,by decide,zt Tryz.func360⟩
 f57:=⟨Tryz.f377.name,by decide,zt Tryz.func377⟩
 t0:=Tryz.underlying0
 a0:=Tryz.isAgg0
 z0:=Tryz.sizeOf0
 v0:=Tryz.zeroValue0
 t3:=Tryz.underlying3
 a3:=Tryz.isAgg3
 z3:=Tryz.sizeOf3
 v3:=Tryz.zeroValue3
 t4:=Tryz.underlying4
 a4:=Tryz.isAgg4
 z4:=Tryz.sizeOf4
 v4:=Tryz.zeroValue4
 t5:=Tryz.underlying5
 a5:=Tryz.isAgg5
 z5:=Tryz.sizeOf5
 v5:=Tryz.zeroValue5
 t9:=Tryz.underlying9
 a9:=Tryz.isAgg9
 z9:=Tryz.sizeOf9
 v9:=Tryz.zeroValue9
 t22:=Tryz.underlying277
 a22:=Tryz.isAgg277
 z22:=Tryz.sizeOf277
 v22:=Tryz.zeroValue277
 t25:=Tryz.underlying282
 a25:=Tryz.isAgg282
 z25:=Tryz.sizeOf282
 v25:=Tryz.zeroValue282
 t39:=Tryz.underlying332
 a39:=Tryz.isAgg332
 z39:=Tryz.sizeOf332
 v39:=Tryz.zeroValue332
 t45:=Tryz.underlying493
 a45:=Tryz.isAgg493
 z45:=Tryz.sizeOf493
 v45:=Tryz.zeroValue493
 t46:=Tryz.underlying494
 a46:=Tryz.isAgg494
 z46:=Tryz.sizeOf494
 v46:=Tryz.zeroValue494
 t50:=Tryz.underlying498
 a50:=Tryz.isAgg498
 z50:=Tryz.sizeOf498
 v50:=Tryz.zeroValue498
 t53:=Tryz.underlying331
 a53:=Tryz.isAgg331
 z53:=Tryz.sizeOf331
 v53:=Tryz.zeroValue331
 t55:=Tryz.underlying155
 a55:=Tryz.isAgg155
 z55:=Tryz.sizeOf155
 v55:=Tryz.zeroValue155
 t66:=Tryz.underlying537
 a66:=Tryz.isAgg537
 z66:=Tryz.sizeOf537
 v66:=Tryz.zeroValue537
 t70:=Tryz.underlying540
 a70:=Tryz.isAgg540
 z70:=Tryz.sizeOf540
 v70:=Tryz.zeroValue540
 t76:=Tryz.underlying548
 a76:=Tryz.isAgg548
 z76:=Tryz.sizeOf548
 v76:=Tryz.zeroValue548
 t77:=Tryz.underlying549
 a77:=Tryz.isAgg549
 z77:=Tryz.sizeOf549
 v77:=Tryz.zeroValue549 }
def Tryz.cloneA4_ren:Go.Shelf.Ren:=⟨fun|5=>127|7=>212|n=>n,fun|23=>272|25=>154|3=>161|4=>4|20=>20|n=>n,fun|n=>n⟩
theorem Tryz.cloneA4:Go.Proofs.SlLaysW.n5 Tryz.prog Tryz.cloneA4_ren:={
 mixed:=by kernel_rfl
 f5:=⟨Tryz.f127.name,by decide,zt Tryz.func127⟩
 f7:=zt Tryz.func212
 t4:=Tryz.underlying4
 a4:=Tryz.isAgg4
 z4:=Tryz.sizeOf4
 v4:=Tryz.zeroValue4
 t20:=Tryz.underlying20
 a20:=Tryz.isAgg20
 z20:=Tryz.sizeOf20
 v20:=Tryz.zeroValue20
 t23:=Tryz.underlying272
 a23:=Tryz.isAgg272
 z23:=Tryz.sizeOf272
 v23:=Tryz.zeroValue272 }
def Tryz.joinA_ren:Go.Shelf.Ren:=⟨fun|156=>289|165=>333|166=>334|169=>335|240=>365|241=>366|276=>379|277=>298|n=>n,fun|31=>408|9=>9|3=>3|4=>4|0=>0|20=>20|72=>519|76=>522|70=>517|37=>43|75=>521|127=>544|164=>552|5=>5|80=>422|n=>n,fun|n=>n⟩
theorem Tryz.joinA:Go.Proofs.Lays.n156 Tryz.prog Tryz.joinA_ren:={
 mixed:=by kernel_rfl
 f156:=zt Tryz.func289
 f165:=zt Tryz.func333
 f166:=zt Tryz.func334
 f169:=zt Tryz.func335
 f240:=zt Tryz.func365
 f241:=zt Tryz.func366
 f276:=zt Tryz.func379
 f277:=zt Tryz.func298
 t0:=Tryz.underlying0
 a0:=Tryz.isAgg0
 z0:=Tryz.sizeOf0
 v0:=Tryz.zeroValue0
 t3:=Tryz.underlying3
 a3:=Tryz.isAgg3
 z3:=Tryz.sizeOf3
 v3:=Tryz.zeroValue3
 t4:=Tryz.underlying4
 a4:=Tryz.isAgg4
 z4:=Tryz.sizeOf4
 v4:=Tryz.zeroValue4
 t9:=Tryz.underlying9
 a9:=Tryz.isAgg9
 z9:=Tryz.sizeOf9
 v9:=Tryz.zeroValue9
 t20:=Tryz.underlying20
 a20:=Tryz.isAgg20
 z20:=Tryz.sizeOf20
 v20:=Tryz.zeroValue20
 t31:=Tryz.underlying408
 a31:=Tryz.isAgg408
 z31:=Tryz.sizeOf408
 v31:=Tryz.zeroValue408
 t37:=Tryz.underlying43
 a37:=Tryz.isAgg43
 z37:=Tryz.sizeOf43
 v37:=Tryz.zeroValue43
 t70:=Tryz.underlying517
 a70:=Tryz.isAgg517
 z70:=Tryz.sizeOf517
 v70:=Tryz.zeroValue517
 t72:=Tryz.underlying519
 a72:=Tryz.isAgg519
 z72:=Tryz.sizeOf519
 v72:=Tryz.zeroValue519
 t75:=Tryz.underlying521
 a75:=Tryz.isAgg521
 z75:=Tryz.sizeOf521
 v75:=Tryz.zeroValue521
 t76:=Tryz.underlying522
 a76:=Tryz.isAgg522
 z76:=Tryz.sizeOf522
 v76:=Tryz.zeroValue522
 t127:=Tryz.underlying544
 a127:=Tryz.isAgg544
 z127:=Tryz.sizeOf544
 v127:=Tryz.zeroValue544
 t164:=Tryz.underlying552
 a164:=Tryz.isAgg552
 z164:=Tryz.sizeOf552
 v164:=Tryz.zeroValue552 }
open  Go.RowKit Go.Maps Go.Sort Go.Shelf
theorem jk{P:Program}{f:FuncId}{args:Array Value}{w:World}{K:KE}{Q:Ending->World->Prop}(h:Calls P f args w Q)(d:∀e a,Q e a->∃v,e=.returned v/\bW w a/\K v a.heap):Calls P f args w (Fin w K):=
 h.mono λe a c=>by
  obtain⟨v,rfl,i,b⟩:=d e a c;exact⟨i,b⟩
theorem zm(m:Nat):AnyZI.SortsIn Tryz.prog Tryz.sortedA_ren Fence.wide m:=
 ⟨λblk off cap c W d a b=>callsIn_wide.2 (AnyM.slices_Sort_int Tryz.sortA blk off cap c W d a b),
  λp cap W=>callsIn_wide.2 (AnyM.slices_Sort_int_none Tryz.sortA p cap W)⟩
theorem Pm{H:aC}{mb:Option Nat}{K:KE}(k:K (.func (.func 215) #[] #[.pointer (some ⟨H.size,0,none⟩)]) (H.push (.cells #[.map mb] 256))) :
  CF 117 #[.map mb] H K:=by
 refine .mk λw a=>?_
 subst a;have h:=(callsIn_wide (n:=5)).1 (AnyZI.keys_in Tryz.keysA Fence.wide 5 trivial rfl mb w);refine jk h ?_;rintro e b ⟨rfl,rfl⟩;exact⟨_,rfl,⟨rfl,rfl,rfl⟩,k⟩
theorem Pn{α:Type}{venc:α->Value}{H:aC}{L:List aE}{r:Nat}{m:List (Int×α)}(h:aA H L)(i:Nat)(R:aW i L=mapA (Value.int .i64) venc r m)(P:∀x∈aG m,aF x)(O:m.length<=17592186044416){K:KE}
  (k:∀a c B,aA B (slA 2 1 a m.length c ((sortI (aG m)).map (Value.int .i64))::L)->dB H B->K (.slice a m.length c) B) :
  CF 116 #[.func (.func 215) #[] #[.pointer (some ⟨H.size,0,none⟩)]] (H.push (.cells #[.map (some r)] 256)) K:=by
 refine .mk λw A=>?_
 have g:dB H w.heap:=by rw[A];exact dB.push _ _
 have D:aA w.heap L:=h.grow g;have G:=D.foc i;rw[R]at G;obtain⟨u,j,b,C⟩:=yK (k:=2) Tryz.underlying2 G P (by unfold maxLen;omega);have d:w.cell? ⟨H.size,0,none⟩=some (.map (some r)):=by
  simp[World.cell?,A]
 have f:SeqGives Fence.wide 2 Tryz.prog 215 #[.pointer (some ⟨H.size,0,none⟩)] encZ (λt=>t.Perm (intKeys u)) (Maps.size u) w:=
  AnyZI.keys_gives (ρ:=Tryz.keysA_ren) { Tryz.keysA with } Fence.wide _ trivial rfl (by omega) H.size r m.length u w (by rw[A];simp) d j
 have I:=AnyZI.sorted_in Tryz.sortedA Fence.wide 5 trivial trivial trivial trivial rfl (by omega) (zm _) (enters_of Tryz.func214 (by kernel_rfl) rfl) 215 #[.pointer (some ⟨H.size,0,none⟩)] trivial (enters_of Tryz.func215 (by kernel_rfl) rfl) _ _ (by unfold maxLen;omega) (by omega) w f;change CallsIn _ _ Tryz.prog 116 _ _ _ at I;refine jk ((callsIn_wide (n:=5)).1 I) ?_;rintro e S ⟨v,t,rfl,N,s,E,hb⟩;obtain⟨a,c,rfl,F⟩:=D.of_row hb s;have M:t.Perm (aG m):=N.trans b;have J:t.length=m.length:=by rw[M.length_eq];simp[aG]
 have Q:t.mergeSort (λx y=>decide (x<=y))=sortI (aG m):=vQ M
 rw[Q,J]at F;refine⟨_,rfl,tB hb,?_⟩;rw[J];exact k a c _ F (g.trans (rE hb))
theorem Gf{α:Type}{venc:α->Value}{H:aC}{L:List aE}{r:Nat}{m:List (Int×α)}(h:aA H L)(i:Nat)(t:aW i L=mapA (Value.int .i64) venc r m){K:KE}
  (k:∀b,aA b (mapA (Value.int .i64) venc H.size m::L)->dB H b->K (.map (some H.size)) b) :
  CF 115 #[.map (some r)] H K:=by
 refine .mk λw n=>?_
 subst n;have d:=h.foc i;rw[t]at d;obtain⟨y,c,a,x,f,u,j⟩:=mp d;have s:=AnyW.maps_Clone Tryz.cloneA r c a w j.get;refine jk s ?_;rintro e A ⟨rfl,rfl⟩;refine⟨_,rfl,⟨rfl,rfl,rfl⟩,k _ ?_ (dB.push _ _)⟩;exact (h.push (.map c a)).mono λp v=>⟨y,c,a,x,f,u,v⟩
theorem Po{H:aC}{mb:Option Nat}{K:KE}(k:K (.func (.func 270) #[] #[.pointer (some ⟨H.size,0,none⟩)]) (H.push (.cells #[.map mb] 291))) :
  CF 216 #[.map mb] H K:=by
 refine .mk λw a=>?_
 subst a;have h:=(callsIn_wide (n:=5)).1 (AnyZI.keys_in Tryz.keysA2 Fence.wide 5 trivial rfl mb w);refine jk h ?_;rintro e b ⟨rfl,rfl⟩;exact⟨_,rfl,⟨rfl,rfl,rfl⟩,k⟩
theorem Pp{α:Type}{venc:α->Value}{H:aC}{L:List aE}{r:Nat}{m:List (Int×α)}(h:aA H L)(i:Nat)(R:aW i L=mapA (Value.int .i64) venc r m)(P:∀x∈aG m,aF x)(O:m.length<=17592186044416){K:KE}
  (k:∀a c B,aA B (slA 2 1 a m.length c ((sortI (aG m)).map (Value.int .i64))::L)->dB H B->K (.slice a m.length c) B) :
  CF 116 #[.func (.func 270) #[] #[.pointer (some ⟨H.size,0,none⟩)]] (H.push (.cells #[.map (some r)] 291)) K:=by
 refine .mk λw A=>?_
 have g:dB H w.heap:=by rw[A];exact dB.push _ _
 have D:aA w.heap L:=h.grow g;have G:=D.foc i;rw[R]at G;obtain⟨u,j,b,C⟩:=yK (k:=2) Tryz.underlying2 G P (by unfold maxLen;omega);have d:w.cell? ⟨H.size,0,none⟩=some (.map (some r)):=by
  simp[World.cell?,A]
 have f:SeqGives Fence.wide 2 Tryz.prog 270 #[.pointer (some ⟨H.size,0,none⟩)] encZ (λt=>t.Perm (intKeys u)) (Maps.size u) w:=
  AnyZI.keys_gives (ρ:=Tryz.keysA2_ren) { Tryz.keysA2 with } Fence.wide _ trivial rfl (by omega) H.size r m.length u w (by rw[A];simp) d j
 have I:=AnyZI.sorted_in Tryz.sortedA Fence.wide 5 trivial trivial trivial trivial rfl (by omega) (zm _) (enters_of Tryz.func214 (by kernel_rfl) rfl) 270 #[.pointer (some ⟨H.size,0,none⟩)] trivial (enters_of Tryz.func270 (by kernel_rfl) rfl) _ _ (by unfold maxLen;omega) (by omega) w f;change CallsIn _ _ Tryz.prog 116 _ _ _ at I;refine jk ((callsIn_wide (n:=5)).1 I) ?_;rintro e S ⟨v,t,rfl,N,s,E,hb⟩;obtain⟨a,c,rfl,F⟩:=D.of_row hb s;have M:t.Perm (aG m):=N.trans b;have J:t.length=m.length:=by rw[M.length_eq];simp[aG]
 have Q:t.mergeSort (λx y=>decide (x<=y))=sortI (aG m):=vQ M
 rw[Q,J]at F;refine⟨_,rfl,tB hb,?_⟩;rw[J];exact k a c _ F (g.trans (rE hb))
theorem Pq{α:Type}{venc:α->Value}{H:aC}{L:List aE}{r:Nat}{m:List (Int×α)}(h:aA H L)(i:Nat)(t:aW i L=mapA (Value.int .i64) venc r m){K:KE}
  (k:∀b,aA b (mapA (Value.int .i64) venc H.size m::L)->dB H b->K (.map (some H.size)) b) :
  CF 135 #[.map (some r)] H K:=by
 refine .mk λw n=>?_
 subst n;have d:=h.foc i;rw[t]at d;obtain⟨y,c,a,x,f,u,j⟩:=mp d;have s:=AnyW.maps_Clone Tryz.cloneA3 r c a w j.get;refine jk s ?_;rintro e A ⟨rfl,rfl⟩;refine⟨_,rfl,⟨rfl,rfl,rfl⟩,k _ ?_ (dB.push _ _)⟩;exact (h.push (.map c a)).mono λp v=>⟨y,c,a,x,f,u,v⟩
theorem Pr{H:aC}{mb:Option Nat}{K:KE}(k:K (.func (.func 338) #[] #[.pointer (some ⟨H.size,0,none⟩)]) (H.push (.cells #[.map mb] 250))) :
  CF 296 #[.map mb] H K:=by
 refine .mk λw a=>?_
 subst a;have h:=(callsIn_wide (n:=5)).1 (AnyZI.keys_in Tryz.keysA3 Fence.wide 5 trivial rfl mb w);refine jk h ?_;rintro e b ⟨rfl,rfl⟩;exact⟨_,rfl,⟨rfl,rfl,rfl⟩,k⟩
theorem Ps{α:Type}{venc:α->Value}{H:aC}{L:List aE}{r:Nat}{m:List (Int×α)}(h:aA H L)(i:Nat)(R:aW i L=mapA (Value.int .i64) venc r m)(P:∀x∈aG m,aF x)(O:m.length<=17592186044416){K:KE}
  (k:∀a c B,aA B (slA 2 1 a m.length c ((sortI (aG m)).map (Value.int .i64))::L)->dB H B->K (.slice a m.length c) B) :
  CF 116 #[.func (.func 338) #[] #[.pointer (some ⟨H.size,0,none⟩)]] (H.push (.cells #[.map (some r)] 250)) K:=by
 refine .mk λw A=>?_
 have g:dB H w.heap:=by rw[A];exact dB.push _ _
 have D:aA w.heap L:=h.grow g;have G:=D.foc i;rw[R]at G;obtain⟨u,j,b,C⟩:=yK (k:=2) Tryz.underlying2 G P (by unfold maxLen;omega);have d:w.cell? ⟨H.size,0,none⟩=some (.map (some r)):=by
  simp[World.cell?,A]
 have f:SeqGives Fence.wide 2 Tryz.prog 338 #[.pointer (some ⟨H.size,0,none⟩)] encZ (λt=>t.Perm (intKeys u)) (Maps.size u) w:=
  AnyZI.keys_gives (ρ:=Tryz.keysA3_ren) { Tryz.keysA3 with } Fence.wide _ trivial rfl (by omega) H.size r m.length u w (by rw[A];simp) d j
 have I:=AnyZI.sorted_in Tryz.sortedA Fence.wide 5 trivial trivial trivial trivial rfl (by omega) (zm _) (enters_of Tryz.func214 (by kernel_rfl) rfl) 338 #[.pointer (some ⟨H.size,0,none⟩)] trivial (enters_of Tryz.func338 (by kernel_rfl) rfl) _ _ (by unfold maxLen;omega) (by omega) w f;change CallsIn _ _ Tryz.prog 116 _ _ _ at I;refine jk ((callsIn_wide (n:=5)).1 I) ?_;rintro e S ⟨v,t,rfl,N,s,E,hb⟩;obtain⟨a,c,rfl,F⟩:=D.of_row hb s;have M:t.Perm (aG m):=N.trans b;have J:t.length=m.length:=by rw[M.length_eq];simp[aG]
 have Q:t.mergeSort (λx y=>decide (x<=y))=sortI (aG m):=vQ M
 rw[Q,J]at F;refine⟨_,rfl,tB hb,?_⟩;rw[J];exact k a c _ F (g.trans (rE hb))
theorem Gh{α:Type}{venc:α->Value}{H:aC}{L:List aE}{r:Nat}{m:List (Int×α)}(h:aA H L)(i:Nat)(t:aW i L=mapA (Value.int .i64) venc r m){K:KE}
  (k:∀b,aA b (mapA (Value.int .i64) venc H.size m::L)->dB H b->K (.map (some H.size)) b) :
  CF 133 #[.map (some r)] H K:=by
 refine .mk λw n=>?_
 subst n;have d:=h.foc i;rw[t]at d;obtain⟨y,c,a,x,f,u,j⟩:=mp d;have s:=AnyW.maps_Clone Tryz.cloneA2 r c a w j.get;refine jk s ?_;rintro e A ⟨rfl,rfl⟩;refine⟨_,rfl,⟨rfl,rfl,rfl⟩,k _ ?_ (dB.push _ _)⟩;exact (h.push (.map c a)).mono λp v=>⟨y,c,a,x,f,u,v⟩
theorem Pt(pre cs post:Os)(ys:List Int)(c:ys.length=cs.length) :
  putCells (Value.int .i64) pre.length ys.toArray (pre++cs++post).toArray=(pre++ys.map (Value.int .i64)++post).toArray:=by
 apply Array.ext';apply WU;intro j;simp only[putCells,List.size_toArray];rw[Array.getElem?_toList,Array.getElem?_mapIdx,List.getElem?_toArray];rw[VK,VK]
 by_cases h1:j<pre.length
 .have e1:(pre++(cs++post))[j]?=some pre[j]:=by rw[List.getElem?_append_left h1,List.getElem?_eq_getElem h1]
  have e2:(pre++(ys.map (Value.int .i64)++post))[j]?=some pre[j]:=by rw[List.getElem?_append_left h1,List.getElem?_eq_getElem h1]
  rw[e1,e2];simp only[Wj];rw[nO]
 .have e1:(pre++(cs++post))[j]?=(cs++post)[j-pre.length]?:=List.getElem?_append_right (by omega);have e2:(pre++(ys.map (Value.int .i64)++post))[j]?=(ys.map (Value.int .i64)++post)[j-pre.length]?:=List.getElem?_append_right (by omega);rw[e1,e2]
  by_cases h2:j<pre.length+ys.length
  .have b:j-pre.length<cs.length:=by omega
   have a:j-pre.length<ys.length:=by omega
   have e3:(cs++post)[j-pre.length]?=some cs[j-pre.length]:=by rw[List.getElem?_append_left b,List.getElem?_eq_getElem b]
   have e4:(ys.map (Value.int .i64)++post)[j-pre.length]?=some (.int .i64 ys[j-pre.length]):=by rw[List.getElem?_append_left (by simpa using a),List.getElem?_map,List.getElem?_eq_getElem a];rfl
   rw[e3,e4];simp only[Wj];rw[V5 ⟨by omega,h2⟩];simp[a]
  .have e3:(cs++post)[j-pre.length]?=post[j-pre.length-cs.length]?:=List.getElem?_append_right (by omega);have e4:(ys.map (Value.int .i64)++post)[j-pre.length]?=post[j-pre.length-cs.length]?:=by rw[List.getElem?_append_right (by simp;omega),VM,c]
   rw[e3,e4]
   cases hp:post[j-pre.length-cs.length]? with
   | none=>rfl
   | some v=>
    simp only[Wj];rw[nO]
theorem sl32:SlT Tryz.prog 43 5 1 1:=iu (by kernel_rfl)
section
variable {F L:List aE}{H:aC}{K:KE}
theorem zn{a:KQ}{c:Nat}{bs:List Int}(h:aA H L)(n:∀H,aA H L->aP H a (bs.map U8))(w:bs.length<=1099511627776)
  (k:∀e f d,aA d (slA 5 1 e bs.length f (bs.map U8)::L)->K (.slice e bs.length f) d):CF 166 #[.slice a bs.length c] H K:=by
 refine cM 166 476 ⟨λj=>?_,λj=>?_⟩
 .have:a=none:=by simpa using j
  subst this;have v:=ol (n H h);have:bs=[]:=by simpa using v
  subst this;exact k none 0 H (h.sl_nil 5 1)
 .refine h.al λb _ h=>?_
  have s:=n _ h.tl;have u:=aA.sl_pt (cs:=[]) h 1 0 rfl;refine aA.append (m:=bs.length) sl32 u 0 rfl s (by simp) (nE (λ_=>rfl) _) (by omega) (by omega) λe f d t=>⟨_,_,_,rfl,?_⟩
  have i:aA d (slA 5 1 e (0+bs.length) f ([]++bs.map U8)::L):=t;rw[VX,Wl]at i;have:=k e f d i;rw[<-VX bs.length]at this;exact this
end
theorem slB0{a:KQ}{c s:Nat}(h:a=some ⟨aV a,aS a,none⟩):cq a 0 c s=a:=by
 unfold cq
 split
 .rfl
 .rw [h,Wj,Yl,iQ];rfl
section
variable {F L:List aE}{H:aC}{K:KE}
theorem Pu{H:aC}{a b:KQ}{c d:Nat}{xs ys:List Int}(x:aP H a (xs.map U8))(hb:aP H b (ys.map U8))(A:xs.length<=1099511627776) :
  bV Tryz.prog 20 #[.slice a xs.length c,.slice b ys.length d] H (.bool (decide (xs=ys))):=by
 unfold bV;refine cN 20 0x1d21562139925b4c [[(5,sI)]] ?_;refine⟨λn=>?_,λn=>?_⟩
 .have:xs.length≠ys.length:=by simp at n;omega
  refine⟨?_,rfl⟩;rw[Ws (λe=>this (by rw[e]))];rfl
 .have w:xs.length=ys.length:=by simp at n;omega
  refine⟨λi u=>u=H/\∃k:Nat,i=k/\k<=xs.length/\xs.take k=ys.take k,λi _=>xs.length-i.toNat,⟨rfl,0,rfl,Wd _,rfl⟩,?_⟩
  rintro i u ⟨rfl,k,rfl,y,s⟩;refine⟨λf=>?_,λf=>?_⟩
  .have m:k<xs.length:=by simpa using f
   have v:=x.at m;have t:=hb.at (j:=k) (by omega);have e3:i64.wrap ((k:Int)+1)=((k+1:Nat):Int):=aJ;refine⟨⟨by omega,by omega⟩,_,_,v.1,_,v.2,⟨by omega,by omega⟩,_,_,t.1,_,t.2,λh=>?_,λh=>?_⟩
   .have:xs[k]≠ys[k]:=by simpa using h
    refine⟨?_,rfl⟩;rw[Ws (λe=>this (by simp[e]))];rfl
   .have:xs[k]=ys[k]:=by simpa using h
    conv=>whnf
    rw[e3];refine⟨⟨rfl,k+1,rfl,m,?_⟩,by simp only[VJ];omega⟩;rw[Wn m,Wn (by omega),s,this]
  .have:k=xs.length:=by
    have:¬((k:Int)<xs.length):=by simpa using f
    omega
   subst this;rw[Wc (VF _),Wc (by omega)]at s;exact⟨by rw[VS s];rfl,rfl⟩
theorem Pw{a:KQ}{c:Nat}{bs:List Int}(h:aA H L)(j:∀H,aA H L->aP H a (bs.map U8))(u:bs.length<=1099511627776)
  (k:∀d f e,aA e (slA 5 1 d bs.length f (bs.map U8)::L)->K (.slice d bs.length f) e):CF 22 #[.slice a bs.length c] H K:=by
 refine cM 22 28 ?_;refine h.al λb _ h=>?_
 have n:=j _ h.tl;have t:=aA.sl_pt (cs:=[]) h 1 0 rfl;refine aA.append (m:=bs.length) sl32 t 0 rfl n (by simp) (nE (λ_=>rfl) _) (by omega) (by omega) λd f e s=>⟨_,_,_,rfl,?_⟩
 have i:aA e (slA 5 1 d (0+bs.length) f ([]++bs.map U8)::L):=s;rw[VX,Wl]at i;have:=k d f e i;rw[<-VX bs.length]at this;exact this
end
theorem aP.subB{H:aC}{a:KQ}{cs:Os}{k c:Nat}(h:aP H a cs)(n:cs.length<=c):aP H (cq a k c 1) (cs.drop k):=by
 intro j v d;have b:aT cs (k+j)=Option.some v:=by
  rw[fL]at d ⊢;rw[List.getElem?_drop]at d;exact d
 obtain⟨m,f⟩:=h (k+j) v b;have i:=og b;have e:cq a k c 1=Option.some ⟨aV a,aS a+k,none⟩:=by
  unfold cq;rw[nO,m,Wj,iQ,W2];rfl
 rw[e];refine⟨rfl,?_⟩;show aL H (aV a) (aS a+k+j)=Option.some v;rw[Wy];exact f
theorem u32w{x:Int}(b:0<=x)(a:x<4294967296):u32.wrap x=x:=by
 simp only[IntKind.wrap,IntKind.bits,IntKind.signed]at *
 first|omega|(simp;omega)
theorem u8w{x:Int}(b:0<=x)(a:x<256):u8.wrap x=x:=by
 simp only[IntKind.wrap,IntKind.bits,IntKind.signed]at *
 first|omega|(simp;omega)
theorem u64w{x:Int}(b:0<=x)(a:x<18446744073709551616):u64.wrap x=x:=by
 simp only[IntKind.wrap,IntKind.bits,IntKind.signed]at *
 first|omega|(simp;omega)
def aI(l:List Int):Prop:=∀x∈l,0<=x/\x<256
def bR(u:Nat):List Int:=if h:u<128 then [(u:Int)] else ((128+u%128:Nat):Int)::bR (u/128)
termination_by u
decreasing_by omega
theorem lI{u:Nat}(h:u<128):bR u=[(u:Int)]:=by rw[bR,dif_pos h]
theorem nI{u:Nat}(h:¬u<128):bR u=((128+u%128:Nat):Int)::bR (u/128):=by rw[bR,dif_neg h]
theorem oU(u:Nat):aI (bR u):=by
 induction u using Nat.strongRecOn with
 | _ u ih=>
  by_cases h:u<128
  .rw [lI h];intro x a;rw[VI]at a;omega
  .rw [nI h];intro x a
   rcases VN.1 a with rfl|a
   .omega
   .exact ih (u/128) (by omega) x a
theorem wj(u:Nat):0<(bR u).length:=by
 by_cases h:u<128
 .rw [lI h];exact Nat.zero_lt_one
 .rw [nI h];simp
inductive UR where
 | ok (u:Nat) (size:Nat)
 | form
 | ended
 deriving DecidableEq
def rdU:Nat->Nat->List Int->UR
 | _,_,[]=>.ended
 | acc,i,c::r=>if (c=0/\0<i)\/(1<c/\i=9) then .form else
   if c<128 then .ok (acc+c.toNat%128*2^(7*i)) (i+1) else rdU (acc+c.toNat%128*2^(7*i)) (i+1) r
theorem wk:∀{l:List Int} {acc i u n:Nat},aI l->rdU acc i l=.ok u n->i<=9->
  ∃w,u=acc+w*2^(7*i)/\i<n/\n-i<=l.length/\bR w=l.take (n-i)/\n<=10/\(0<i->w≠0)/\w*2^(7*i)<2^64
 | [],acc,i,u,n,_,h,_=>by simp[rdU]at h
 | c::r,acc,i,u,n,hb,h,hi=>by
  have d:=hb c VO;rw[rdU]at h
  split at h
  .cases h
  .rename_i a
   split at h
   .rename_i m
    cases h
    refine⟨c.toNat,?_,by omega,?_,?_,by omega,λh0=>?_,?_⟩
    .rw [WJ (by omega)]
    .simp only[VE];omega
    .rw [lI (by omega),show i+1-i=1 by omega];simp only[WO,Yi];rw[Y2 d.1]
    .intro e;exact a (Or.inl ⟨by omega,h0⟩)
    .by_cases b:i=9
     .subst b;have:c.toNat<=1:=by
       by_cases h1:1<c
       .exact V6 (Or.inr ⟨h1,rfl⟩) a
       .omega
      calc c.toNat*2^(7*9)<=1*2^(7*9):=W1 _ this
       _<2^64:=by decide
     .calc c.toNat*2^(7*i)<128*2^(7*i):=(Nat.mul_lt_mul_right (Ya _)).2 (by omega)
       _=2^(7+7*i):=by rw[W8]
       _<=2^64:=Nat.pow_le_pow_right (by decide) (by omega)
   .rename_i k;have b:i≠9:=λe=>a (Or.inr ⟨by omega,e⟩)
    obtain⟨w,e1,e2,e3,e4,e5,e6,e7⟩:=wk (λx f=>hb x (VQ _ f)) h (by omega)
    have v:=e6 (by omega);have em:c.toNat%128+128*w=c.toNat%128+w*128:=by omega
    have ep:(2:Nat)^(7*(i+1))=128*2^(7*i):=by rw[show 7*(i+1)=7+7*i by omega,W8]
    refine⟨c.toNat%128+128*w,?_,by omega,?_,?_,e5,λ_=>by omega,?_⟩
    .rw [e1,ep,Wr,<-Nat.mul_assoc,Nat.mul_comm w 128,Wy]
    .simp only[VE];omega
    .rw [nI (by omega),show n-i=(n-(i+1))+1 by omega,WO,<-e4];congr 1
     .omega
     .congr 1;omega
    .rw [ep]at e7;have s:i+1<=9:=by omega
     have j:w*2^(7*(i+1))<2^(64-7*(i+1))*2^(7*(i+1)):=by
      rw[<-W8,show 64-7*(i+1)+7*(i+1)=64 by omega,ep];exact e7
     have t:w<2^(64-7*(i+1)):=Nat.lt_of_mul_lt_mul_right j
     calc (c.toNat%128+128*w)*2^(7*i)<(128*2^(64-7*(i+1)))*2^(7*i):=(Nat.mul_lt_mul_right (Ya _)).2 (by omega)
      _=2^64:=by rw[show (128:Nat)=2^7 from rfl,<-W8,<-W8,show 7+(64-7*(i+1))+7*i=64 by omega]
theorem wl:∀{w acc i:Nat} (r:List Int),w<2^(64-7*i)->i<=9->(0<i->w≠0)->
  rdU acc i (bR w++r)=.ok (acc+w*2^(7*i)) (i+(bR w).length):=by
 intro w
 induction w using Nat.strongRecOn with
 | _ w ih=>
  intro acc i r b hi h0
  by_cases h:w<128
  .rw [lI h,List.singleton_append,rdU,V4,pO]
   .rw [VJ,WJ h];rfl
   .rintro (⟨c,a⟩|⟨c,a⟩)
    .exact h0 a (by omega)
    .subst a;have:w<2:=by simpa using b
     omega
  .have d:i≠9:=by
    intro e;subst e;have:w<2:=by simpa using b
    omega
   rw[nI h,WE,rdU,V4,nO,ih (w/128) (by omega) r ?_ (by omega) (λ_=>by omega)]
   .have ep:(2:Nat)^(7*(i+1))=128*2^(7*i):=by rw[show 7*(i+1)=7+7*i by omega,W8]
    congr 1
    .rw [VJ,ep,Wy,show (128+w%128)%128=w%128 by omega,<-Nat.mul_assoc,<-Wr];congr 2;omega
    .simp only[VE];omega
   .rw [Yh (by decide)]
    calc w<2^(64-7*i):=b
     _=2^(64-7*(i+1))*128:=by rw[show (128:Nat)=2^7 from rfl,<-W8,show 64-7*(i+1)+7=64-7*i by omega]
   .rintro (⟨c,a⟩|⟨c,a⟩)
    .omega
    .exact d a
theorem rdU_part:∀{w acc i k:Nat},k<(bR w).length->i+(bR w).length<=10->rdU acc i ((bR w).take k)=.ended:=by
 intro w
 induction w using Nat.strongRecOn with
 | _ w ih=>
  intro acc i k a hi
  by_cases h:w<128
  .rw [lI h]at a ⊢;have:k=0:=by simpa using a
   subst this;rfl
  .rw [nI h]at a hi ⊢
   cases k with
   | zero=>rfl
   | succ k=>
    have b:=wj (w/128);simp only[VE]at a hi;rw[WO,rdU,nO,nO];exact ih (w/128) (by omega) (by omega) (by omega)
theorem Px:∀{w i:Nat},w<2^(64-7*i)->i<=9->i+(bR w).length<=10:=by
 intro w
 induction w using Nat.strongRecOn with
 | _ w ih=>
  intro i a hi
  by_cases h:w<128
  .rw [lI h];simp only[Wv];omega
  .have b:i≠9:=by
    intro e;subst e;have:w<2:=by simpa using a
    omega
   rw[nI h];have:=ih (w/128) (by omega) (i:=i+1) (by
    rw[Yh (by decide)]
    calc w<2^(64-7*i):=a
     _=2^(64-7*(i+1))*128:=by rw[show (128:Nat)=2^7 from rfl,<-W8,show 64-7*(i+1)+7=64-7*i by omega]) (by omega)
   simp only[VE];omega
theorem oV(n:Nat):u8.wrap (n:Int)=((n%256:Nat):Int):=by
 simp only[IntKind.wrap,IntKind.bits,IntKind.signed]
 <;> (try simp) <;> (try omega)
theorem or8_all:∀n,n<256->(n ||| 128)=128+n%128:=by decide +kernel
theorem Py(n:Nat):aY .or .u8 (u8.wrap (n:Int)) 128=((128+n%128:Nat):Int):=by
 rw[oV];unfold aY;have e1:(BitVec.ofInt u8.bits ((n%256:Nat):Int)).toNat=n%256:=by
  rw[YE,YF];exact WJ (WB _ (by decide))
 have e2:(BitVec.ofInt u8.bits (128:Int)).toNat=128:=by decide
 have:u8.wrap (((n%256) ||| 128:Nat):Int)=((128+n%128:Nat):Int):=by
  rw[or8_all _ (WB _ (by decide)),oV];omega
 show u8.wrap ((BitVec.ofInt u8.bits ((n%256:Nat):Int) ||| BitVec.ofInt u8.bits 128).toNat:Int)=_;rw[BitVec.toNat_or,e1,e2,this]
theorem shift7(n:Nat):Int.fdiv (n:Int) (2^(min (Int.toNat 7) (u64.bits)))=((n/128:Nat):Int):=by
 show Int.fdiv (n:Int) 128=_;rw[WY _ (by decide)];omega
section
variable {F L:List aE}{H:aC}{K:KE}
theorem om{u:Nat}(a:u<18446744073709551616):(bR u).length<=10:=by
 have:=Px (w:=u) (i:=0) (by simpa using a) (by omega);omega
theorem wm{a:KQ}{c:Nat}{bs:List Int}{u:Nat}(h:aA H (slA 5 1 a bs.length c (bs.map U8)::F))(B:bs.length<=1099511627776)(t:u<18446744073709551616)
  (k:∀e d i,aA i (slA 5 1 e (bs++bR u).length d ((bs++bR u).map U8)::F)->K (.slice e (bs++bR u).length d) i) :
  CF 112 #[.slice a bs.length c,.int .u64 u] H K:=by
 refine cN 112 5161250280592460 [[(0,sS),(1,sU)]] ?_;refine⟨λe y d v i=>∃(cs:List Int) (w:Nat),y=cs.length/\v=w/\w<18446744073709551616/\cs++bR w=bs++bR u/\aA i (slA 5 1 e cs.length d (cs.map U8)::F),λ_ _ _ u _=>u.toNat,
  ⟨bs,u,rfl,rfl,t,rfl,h⟩,?_⟩
 rintro a1 n1 c1 u1 C ⟨cs,w,rfl,rfl,A,j,s⟩;have x:cs.length<=1099511627786:=by
  have:=congrArg List.length j;simp only[V7]at this;have:=om t;omega
 refine⟨λm=>?_,λm=>?_⟩
 .have b:¬w<128:=by simp at m;omega
  rintro _ _ rfl rfl;rw[Py];refine s.append1 sl32 0 rfl (by rfl) (by rfl) (by omega) (by omega) λe d n f=>⟨_,_,_,rfl,by decide,?_,by dsimp only;rw[shift7];omega⟩
  refine⟨cs++[((128+w%128:Nat):Int)],w/128,by simp,shift7 w,by omega,?_,?_⟩
  .rw [<-j,nI b,VK,List.singleton_append]
  .rw [VW,V7];exact f
 .have b:w<128:=by simp at m;omega
  rintro _ _ rfl rfl;rw[oV];refine s.append1 sl32 0 rfl (by rfl) (by rfl) (by omega) (by omega) λe d n f=>⟨_,_,_,rfl,?_⟩
  have:=k e d n;rw[<-j,lI b,V7]at this;refine this ?_;rw[VW];rw[WJ (by omega)]at f;exact f
end
theorem Gi{a m p:Nat}(b:a<2^p)(h:a+m*2^p<18446744073709551616):aY .or .u64 (a:Int) ((m*2^p:Nat):Int)=((a+m*2^p:Nat):Int):=by
 have d:a<18446744073709551616:=by omega
 have c:m*2^p<18446744073709551616:=by omega
 have e1:(BitVec.ofInt u64.bits (a:Int)).toNat=a:=by
  rw[YE,YF];exact WJ d
 have e2:(BitVec.ofInt u64.bits ((m*2^p:Nat):Int)).toNat=m*2^p:=by
  rw[YE,YF];exact WJ c
 have e3:a ||| m*2^p=a+m*2^p:=by
  rw[Nat.mul_comm m,Nat.or_comm,<-YO b,Yj]
 show u64.wrap ((BitVec.ofInt u64.bits (a:Int) ||| BitVec.ofInt u64.bits ((m*2^p:Nat):Int)).toNat:Int)=_;rw[BitVec.toNat_or,e1,e2,e3,u64w (by omega) (by omega)]
theorem part64{c:Int}{i:Nat}(h0:0<=c)(d:c<256)(hi:i<=9)(a:i=9->c<=1) :
  u64.wrap ((u64.wrap (Int.tmod c 128))*2^(min (7*i) 64))=((c.toNat%128*2^(7*i):Nat):Int)/\c.toNat%128*2^(7*i)+2^(7*i)<=18446744073709551616:=by
 have em:Int.tmod c 128=((c.toNat%128:Nat):Int):=by rw[Int.tmod_eq_emod_of_nonneg h0];omega
 have hb:c.toNat%128*2^(7*i)+2^(7*i)<=18446744073709551616:=by
  have e:c.toNat%128*2^(7*i)+2^(7*i)=(c.toNat%128+1)*2^(7*i):=by rw[Wr,Nat.one_mul]
  rw[e]
  by_cases h:i=9
  .have:=a h;subst h
   calc (c.toNat%128+1)*2^(7*9)<=2*2^(7*9):=W1 _ (by omega)
    _=18446744073709551616:=by decide
  .calc (c.toNat%128+1)*2^(7*i)<=128*2^(7*8):=Nat.mul_le_mul (by omega) (Nat.pow_le_pow_right (by decide) (by omega))
    _<=18446744073709551616:=by decide
 refine⟨?_,hb⟩;have b:0<2^(7*i):=Ya _;rw[em,u64w (x:=((c.toNat%128:Nat):Int)) (by omega) (by omega),WX (by omega)];have:((c.toNat%128:Nat):Int)*2^(7*i)=((c.toNat%128*2^(7*i):Nat):Int):=by
  rw[WZ,Int.natCast_pow];rfl
 rw[this,u64w (by omega) (by omega)]
def firV:UR->Value
 | .ok u n=>.tuple #[.int .u64 u,.int .i64 n,.int .i64 0]
 | .form=>.tuple #[.int .u64 0,.int .i64 0,.int .i64 10]
 | .ended=>.tuple #[.int .u64 0,.int .i64 0,.int .i64 15]
inductive RStep (bs:List Int)(k acc:Nat):Prop where
 | fin (h:bs.length<=k) (e:rdU acc k (bs.drop k)=.ended)
 | go (h:k<bs.length) (c:Int) (hc:bs[k]=c) (h0:0<=c) (h1:c<256) (hf:¬((c=0/\0<k)\/(1<c/\k=9)))
   (e1:c<128->rdU acc k (bs.drop k)=.ok (acc+c.toNat%128*2^(7*k)) (k+1))
   (e2:¬c<128->rdU acc k (bs.drop k)=rdU (acc+c.toNat%128*2^(7*k)) (k+1) (bs.drop (k+1)))
 | bad (h:k<bs.length) (c:Int) (hc:bs[k]=c) (hf:(c=0/\0<k)\/(1<c/\k=9)) (e:rdU acc k (bs.drop k)=.form)
theorem rstep{bs:List Int}(hb:aI bs)(k acc:Nat):RStep bs k acc:=by
 rcases Wa k bs.length with h|h
 .have hd:bs.drop k=bs[k]::bs.drop (k+1):=Wx h;have b:=hb _ (VL h)
  by_cases hf:(bs[k]=0/\0<k)\/(1<bs[k]/\k=9)
  .exact .bad h _ rfl hf (by rw[hd,rdU,V5 hf])
  .refine .go h _ rfl b.1 b.2 hf (λa=>?_) (λa=>?_)
   .rw [hd,rdU,V4 hf,V5 a]
   .rw [hd,rdU,V4 hf,V4 a]
 .exact .fin h (by rw[List.drop_eq_nil_of_le h];rfl)
theorem Gj{H:aC}{a:KQ}{c:Nat}{bs:List Int}(I:aP H a (bs.map U8))(hb:aI bs)(L:bs.length<=1099511627776) :
  bV Tryz.prog 249 #[.slice a bs.length c] H (firV (rdU 0 0 bs)):=by
 unfold bV;refine cN 249 0x11215612399251d1b4c [[(5,sU),(10,sI)]] ?_;refine⟨λu i C=>C=H/\∃k b:Nat,i=k/\u=b/\k<=9/\k<=bs.length/\b<2^(7*k)/\rdU b k (bs.drop k)=rdU 0 0 bs,λ_ i _=>bs.length-i.toNat,⟨rfl,0,0,rfl,rfl,by decide,Wd _,by decide,rfl⟩,?_⟩
 rintro u i C ⟨rfl,k,b,rfl,rfl,J,K,d,s⟩;refine⟨λv=>?_,λv=>?_⟩
 .have B:k<bs.length:=by simpa using v
  have D:=I.at B;refine⟨⟨by omega,by omega⟩,_,_,D.1,_,D.2,?_⟩;have e7:i64.wrap (7*(k:Int))=((7*k:Nat):Int):=by rw[aJ];omega
  have F:i64.wrap ((k:Int)+1)=((k+1:Nat):Int):=aJ
  rcases rstep hb k b with ⟨h,_⟩|⟨h,x,A,h0,y,n,e1,e2⟩|⟨h,x,A,n,e⟩
  .omega
  .rw [A];have E:=part64 (c:=x) (i:=k) h0 y J (λe9=>by
    rcases Int.lt_or_le 1 x with t|t
    .exact V6 (Or.inr ⟨t,e9⟩) n
    .exact t)
   refine⟨λf=>?_,λ_=>⟨by decide,by rw[e7];omega,λj=>?_,λj=>?_⟩⟩
   .exfalso;apply n;simp only[VR,VB,VA]at f;omega
   .conv=>whnf
    rw[e7,F,VJ];show _=_/\_;have m:u64.wrap (u64.wrap (Int.tmod x 128)*2^(min (7*k) u64.bits))=((x.toNat%128*2^(7*k):Nat):Int):=E.1;rw[m,Gi d (by omega),<-s,e1 (by simpa using j)];exact⟨rfl,rfl⟩
   .conv=>whnf
    rw[e7,F,VJ];have m:u64.wrap (u64.wrap (Int.tmod x 128)*2^(min (7*k) u64.bits))=((x.toNat%128*2^(7*k):Nat):Int):=E.1;have w:¬x<128:=by simpa using j
    rw[m,Gi d (by omega)];have k9:k≠9:=λe9=>n (Or.inr ⟨by omega,e9⟩)
    refine⟨⟨rfl,k+1,_,rfl,rfl,by omega,by omega,?_,?_⟩,by dsimp only;omega⟩
    .calc b+x.toNat%128*2^(7*k)<2^(7*k)+x.toNat%128*2^(7*k):=by omega
      _=(x.toNat%128+1)*2^(7*k):=by rw[Wr,Nat.one_mul,Yj]
      _<=128*2^(7*k):=W1 _ (by omega)
      _=2^(7*(k+1)):=by rw[show 7*(k+1)=7+7*k by omega,W8]
    .rw [<-s,e2 w]
  .rw [A];refine⟨λ_=>?_,λf=>?_⟩
   .rw [<-s,e];exact⟨rfl,rfl⟩
   .exfalso;simp only[VP,Wo,VD]at f;omega
 .have G:bs.length<=k:=by simp at v;omega
  rcases rstep hb k b with ⟨h,e⟩|⟨h,_⟩|⟨h,_⟩
  .rw [<-s,e];exact⟨rfl,rfl⟩
  .omega
  .omega
def cntV(most:Int):UR->Value
 | .ok u n=>if max most 0<(u:Int) then .tuple #[.int .i64 0,.int .i64 0,.int .i64 17] else .tuple #[.int .i64 u,.int .i64 n,.int .i64 0]
 | .form=>.tuple #[.int .i64 0,.int .i64 0,.int .i64 10]
 | .ended=>.tuple #[.int .i64 0,.int .i64 0,.int .i64 15]
theorem Gk{H:aC}{a:KQ}{c:Nat}{bs:List Int}{most:Int}(k:aP H a (bs.map U8))(hb:aI bs)(j:bs.length<=1099511627776)(hm:aF most) :
  bV Tryz.prog 254 #[.slice a bs.length c,.int .i64 most] H (cntV most (rdU 0 0 bs)):=by
 unfold bV;refine cM 254 73180 ?_;have b:=Gj (c:=c) k hb j;have i:u64.wrap (if 0>most then 0 else most)=max most 0:=by
  unfold aF at hm
  split <;> rw[u64w (by omega) (by omega)] <;> omega
 cases hr:rdU 0 0 bs with
 | ok u n=>
  rw[hr]at b;refine⟨_,_,_,b,(λd=>by cases d),λ_=>⟨λe=>?_,λe=>?_⟩⟩
  .have f:max most 0<(u:Int):=by rw[<-i];simpa using e
   unfold cntV;dsimp only;rw[V5 f];exact⟨rfl,rfl⟩
  .have h:¬max most 0<(u:Int):=by rw[<-i];simpa using e
   unfold cntV;unfold aF at hm;dsimp only;rw[V4 h];exact⟨by show Value.tuple #[.int .i64 (i64.wrap _),_,_]=_;rw[aJ],rfl⟩
 | form=>
  rw[hr]at b;exact⟨_,_,_,b,λ_=>⟨rfl,rfl⟩,(λd=>by cases d)⟩
 | ended=>
  rw[hr]at b;exact⟨_,_,_,b,λ_=>⟨rfl,rfl⟩,(λd=>by cases d)⟩
section
variable {F L:List aE}{H:aC}{K:KE}
theorem zo{a:KQ}{c:Nat}{u:Nat}(h:aA H F)(w:∀H,aA H F->aP H a [.int .u64 u])(x:u<18446744073709551616)
  (k:∀e d b,aA b (slA 5 1 e (bR u).length d ((bR u).map U8)::F)->K (.slice e (bR u).length d) b) :
  CF 111 #[.slice a 1 c] H K:=by
 refine cN 111 0x1121561239925144c [[(3,sS),(8,sI)]] ?_;refine⟨λe n d i b=>(i=0/\n=0/\d=0/\e=none/\aA b F)\/(i=1/\n=(bR u).length/\aA b (slA 5 1 e (bR u).length d ((bR u).map U8)::F)),λ_ _ _ i _=>1-i.toNat,
  .inl ⟨rfl,rfl,rfl,rfl,h⟩,?_⟩
 rintro a1 n1 c1 i v (⟨rfl,rfl,rfl,rfl,f⟩|⟨rfl,rfl,f⟩)
 .skip
  refine⟨λ_=>?_,(λj=>by cases j)⟩
  have m:=(w _ f) 0 _ rfl;refine⟨by decide,_,_,m.1,_,m.2,?_⟩;have s:aA v (slA 5 1 none ([]:List Int).length 0 (([]:List Int).map U8)::F):=f.sl_nil 5 1;refine wm (bs:=[]) s (by simp) x λe d b t=>⟨_,_,_,rfl,.inr ⟨rfl,rfl,t⟩,by dsimp only;decide⟩
 .skip
  exact⟨(λj=>by cases j),λ_=>k _ _ _ f⟩
end
structure RS where
 e:Int
 bs:List Int
def bY(most:Int)(s:RS):Int×RS:=if s.e≠0 then (0,s) else match rdU 0 0 s.bs with
 | .ok u n=>if max most 0<(u:Int) then (0,⟨17,s.bs⟩) else (u,⟨0,s.bs.drop n⟩)
 | .form=>(0,⟨10,s.bs⟩)
 | .ended=>(0,⟨15,s.bs⟩)
def aZ(most:Int)(s:RS):List Int×RS:=if s.e≠0 then ([],s) else match rdU 0 0 s.bs with
 | .ok u n=>if max most 0<(u:Int) then ([],⟨17,s.bs⟩) else if s.bs.length<n+u then ([],⟨15,s.bs⟩) else ((s.bs.drop n).take u,⟨0,s.bs.drop (n+u)⟩)
 | .form=>([],⟨10,s.bs⟩)
 | .ended=>([],⟨15,s.bs⟩)
theorem qq{bs:List Int}{u n:Nat}(hb:aI bs)(h:rdU 0 0 bs=.ok u n):0<n/\n<=bs.length/\u<18446744073709551616:=by
 obtain⟨w,c,a,d,_,_,_,b⟩:=wk hb h (by omega);refine⟨a,by omega,?_⟩;simp only[Nat.mul_zero,Nat.pow_zero,W2]at c b;omega
def crdA(b:Nat)(s:RS):aE:=exS λp:KQ×Nat=>cellsA b [.slice p.1 s.bs.length p.2,.int .i64 s.e] 432*slA 5 1 p.1 s.bs.length p.2 (s.bs.map U8)
theorem iy{H:aC}{b:Nat}{s:RS}{L:List aE}:aA H (crdA b s::L)↔∃a c,aA H (cellsA b [.slice a s.bs.length c,.int .i64 s.e] 432::slA 5 1 a s.bs.length c (s.bs.map U8)::L):=by
 unfold crdA;rw[cK]
 constructor
 .rintro⟨p,h⟩;exact⟨p.1,p.2,gy.1 h⟩
 .rintro⟨a,c,h⟩;exact⟨(a,c),gy.2 h⟩
def bG(s:List Int):Fa:=strOfNums s
section
variable {F L:List aE}{H:aC}{K:KE}
theorem zp{b n c size:Nat}{a:KQ}(h:aA H (cellsA b [.slice a n c,.int .i64 0] 432::F))(hs:size<=n)(f:n<=c)
  (k:∀e,aA e (cellsA b [.slice (cq a size c 1) (n-size) (c-size),.int .i64 0] 432::F)->K (.bool true) e) :
  CF 250 #[.pointer (some ⟨b,0,none⟩),.int .i64 size,.int .i64 0] H K:=by
 refine cM 250 125110962460 ?_;refine⟨_,h.r 0,(λd=>by cases d),λ_=>⟨(λd=>by cases d),λ_=>⟨_,_,_,h.rd 0 rfl _,⟨by omega,by omega,by omega⟩,?_⟩⟩⟩
 rw[VJ];exact h.st 0 rfl rfl λe h=>k _ h
theorem nJ{b n c:Nat}{size e:Int}{a:KQ}(h:aA H (cellsA b [.slice a n c,.int .i64 0] 432::F))(i:e≠0)
  (k:∀f,aA f (cellsA b [.slice a n c,.int .i64 e] 432::F)->K (.bool false) f) :
  CF 250 #[.pointer (some ⟨b,0,none⟩),.int .i64 size,.int .i64 e] H K:=by
 refine cM 250 125110962460 ?_;refine⟨_,h.r 0,(λd=>by cases d),λ_=>⟨λ_=>?_,λd=>by simp[i]at d⟩⟩
 exact h.st 0 rfl rfl λf h=>k _ h
theorem wo{b n c:Nat}{size e e0:Int}{a:KQ}(h:aA H (cellsA b [.slice a n c,.int .i64 e0] 432::F))(f:e0≠0)
  (k:K (.bool false) H):CF 250 #[.pointer (some ⟨b,0,none⟩),.int .i64 size,.int .i64 e] H K:=by
 refine cM 250 125110962460 ?_;exact⟨_,h.r 0,λ_=>k,λd=>by simp[f]at d⟩
theorem Err_spec{b n c:Nat}{e:Int}{a:KQ}(h:aA H (cellsA b [.slice a n c,.int .i64 e] 432::F)):bV Tryz.prog 173 #[.pointer (some ⟨b,0,none⟩)] H (.int .i64 e):=by
 unfold bV;refine cM 173 28 ?_;exact⟨_,h.r 0,rfl,rfl⟩
theorem Pz{b n c:Nat}{e:Int}{a:KQ}(h:aA H (cellsA b [.slice a n c,.int .i64 e] 432::F)):bV Tryz.prog 258 #[.pointer (some ⟨b,0,none⟩)] H (.int .i64 n):=by
 unfold bV;refine cM 258 28 ?_;exact⟨_,_,_,h.r 0,rfl,rfl⟩
theorem mB{b:Nat}{s:RS}(h:aA H (crdA b s::F)):bV Tryz.prog 173 #[.pointer (some ⟨b,0,none⟩)] H (.int .i64 s.e):=by
 obtain⟨a,c,h⟩:=iy.1 h;exact Err_spec h
theorem oW{b:Nat}{s:RS}(h:aA H (crdA b s::F)):bV Tryz.prog 258 #[.pointer (some ⟨b,0,none⟩)] H (.int .i64 s.bs.length):=by
 obtain⟨a,c,h⟩:=iy.1 h;exact Pz h
theorem rQ{a:KQ}{c:Nat}{bs:List Int}(h:aA H F)(e:∀H,aA H F->aP H a (bs.map U8))(f:bs.length<=1099511627776)
  (k:∀b d,aA d (crdA b ⟨0,bs⟩::F)->K (.pointer (some ⟨b,0,none⟩)) d):CF 168 #[.slice a bs.length c] H K:=by
 refine cM 168 28 ?_;refine zn h e f λj n m h=>⟨_,_,_,rfl,?_⟩
 refine h.al λb i h=>k _ _ ?_
 exact iy.2 ⟨_,_,h⟩
theorem tQ{b:Nat}{s:RS}{most:Int}(h:aA H (crdA b s::F))(hb:aI s.bs)(D:s.bs.length<=1099511627776)(hm:aF most)
  (k:∀i,aA i (crdA b (bY most s).2::F)->K (.int .i64 (bY most s).1) i) :
  CF 251 #[.pointer (some ⟨b,0,none⟩),.int .i64 most] H K:=by
 obtain⟨e,bs⟩:=s;dsimp only at hb D;obtain⟨a,c,h⟩:=iy.1 h;dsimp only at h;have E:=h.sl_rd 1 rfl;have G:=h.sl_nc 1 rfl;refine cM 251 4572 ?_;have d:=Gk (c:=c) E hb D hm;have fin:∀r1 x:Int,∀(r:Int),(bY most ⟨e,bs⟩=(0,⟨x,bs⟩))->(∀m,(∀i,aA i (cellsA b [.slice a bs.length c,.int .i64 x] 432::slA 5 1 a bs.length c (bs.map U8)::F)->m (.bool false) i)->CF 250 #[.pointer (some ⟨b,0,none⟩),.int .i64 r1,.int .i64 r] H m)->
   CF 250 #[.pointer (some ⟨b,0,none⟩),.int .i64 r1,.int .i64 r] H λu C=>∃r3:Bool,u=(.bool r3)/\(((!r3))=true->K (.int .i64 0) C)/\(((!r3))=false->K (.int .i64 (bY most ⟨e,bs⟩).1) C):=by
  intro r1 x r v f;rw[v]at k ⊢;exact f _ λi y=>⟨_,rfl,λ_=>k _ (iy.2 ⟨_,_,y⟩),λt=>by cases t⟩
 by_cases v:e=0
 .subst v
  cases hu:rdU 0 0 bs with
  | ok u n=>
   obtain⟨J,A,I⟩:=qq hb hu;rw[hu]at d;unfold cntV at d;dsimp only at d
   by_cases hm1:max most 0<(u:Int)
   .rw [V5 hm1]at d;refine⟨_,_,_,h.r 0,_,_,_,d,?_⟩;have f:=fin 0 17 17 (by unfold bY;simp[hu,hm1]) λm j=>nJ h (by decide) j
    have e0:(bY most ⟨0,bs⟩).1=0:=by unfold bY;simp[hu,hm1]
    rw[e0]at f;exact f
   .rw [V4 hm1]at d;refine⟨_,_,_,h.r 0,_,_,_,d,?_⟩;have ec:bY most ⟨0,bs⟩=((u:Int),⟨0,bs.drop n⟩):=by unfold bY;simp[hu,hm1]
    rw[ec]at k;refine zp h A G λi y=>⟨_,rfl,(λt=>by cases t),λ_=>k _ ?_⟩
    have B:=y.sl_drop 1 rfl n A;rw[W2,<-List.map_drop]at B;refine iy.2 ⟨cq a n c 1,c-n,?_⟩;dsimp only;rw[VU];exact B
  | form=>
   rw[hu]at d;refine⟨_,_,_,h.r 0,_,_,_,d,?_⟩;have f:=fin 0 10 10 (by unfold bY;simp[hu]) λm j=>nJ h (by decide) j
   have e0:(bY most ⟨0,bs⟩).1=0:=by unfold bY;simp[hu]
   rw[e0]at f;exact f
  | ended=>
   rw[hu]at d;refine⟨_,_,_,h.r 0,_,_,_,d,?_⟩;have f:=fin 0 15 15 (by unfold bY;simp[hu]) λm j=>nJ h (by decide) j
   have e0:(bY most ⟨0,bs⟩).1=0:=by unfold bY;simp[hu]
   rw[e0]at f;exact f
 .have ec:bY most ⟨e,bs⟩=(0,⟨e,bs⟩):=by unfold bY;simp[v]
  rw[ec]at k;have w:∃r r1 r2:Int,cntV most (rdU 0 0 bs)=.tuple #[.int .i64 r,.int .i64 r1,.int .i64 r2]:=by
   unfold cntV
   split
   .split <;> exact⟨_,_,_,rfl⟩
   .exact⟨_,_,_,rfl⟩
   .exact⟨_,_,_,rfl⟩
  obtain⟨r,r1,r2,w⟩:=w;rw[w]at d;refine⟨_,_,_,h.r 0,_,_,_,d,?_⟩;exact wo h v ⟨_,rfl,λ_=>k _ (iy.2 ⟨_,_,h⟩),λt=>by cases t⟩
theorem rR{H:aC}{a:KQ}{c:Nat}{bs:List Int}(h:a=none\/∃b o,a=some ⟨b,o,none⟩)(d:aP H a (bs.map U8)):dm Tryz.prog (convert 43 9 (.slice a bs.length c)) H (.string (bG bs)):=by
 intro w f;subst f
 rcases h with rfl|⟨b,o,rfl⟩
 .have:=ol d;have hb:bs=[]:=by simpa using this
  subst hb;exact run_convert_bytes_nil w 43 5 (by kernel_rfl) (by kernel_rfl) _ _ 9 (by kernel_rfl)
 .refine run_convert_bytes_arg w 43 5 (by kernel_rfl) (by kernel_rfl) b o _ c bs rfl (λi hi=>?_) 9 (by kernel_rfl)
  have e:=(d.at hi).2;simp only[aV,aS]at e;rw[show bs.getD i 0=bs[i] by simp[List.getD,List.getElem?_eq_getElem hi]];rw[cell?_cellAt];exact e
theorem slB_is{e sz n c k:Nat}{a:KQ}{cs:Os}(h:aA H (slA e sz a n c cs::F)):cq a k c sz=none\/∃b o,cq a k c sz=some ⟨b,o,none⟩:=by
 have d:a=none\/∃b o,a=some ⟨b,o,none⟩:=by
  rcases (ky (F:=star F) h).2 with ⟨d,_⟩|⟨b,pre,post,f,fr,d,_⟩
  .exact .inl d
  .exact .inr ⟨_,_,d⟩
 unfold cq
 split
 .exact d
 .rcases d with rfl|⟨b,o,rfl⟩
  .exact .inl rfl
  .right;rw[Wj,iQ];exact⟨_,_,rfl⟩
theorem nK{b:Nat}{s:RS}{most:Int}(h:aA H (crdA b s::F))(hb:aI s.bs)(M:s.bs.length<=1099511627776)(hm:aF most)
  (k:∀w,aA w (crdA b (aZ most s).2::F)->K (.string (bG (aZ most s).1)) w) :
  CF 176 #[.pointer (some ⟨b,0,none⟩),.int .i64 most] H K:=by
 obtain⟨e,bs⟩:=s;dsimp only at hb M;obtain⟨a,c,h⟩:=iy.1 h;dsimp only at h;have P:=h.sl_rd 1 rfl;have N:=h.sl_nc 1 rfl;refine OM ?_;have f:=Gk (c:=c) P hb M hm;have fin:∀(r r1 d E:Int),aZ most ⟨e,bs⟩=([],⟨E,bs⟩)->(∀v:KE,(∀w,aA w (cellsA b [.slice a bs.length c,.int .i64 E] 432::slA 5 1 a bs.length c (bs.map U8)::F)->v (.bool false) w)->CF 250 #[.pointer (some ⟨b,0,none⟩),.int .i64 (i64.wrap (r1+r)),.int .i64 d] H v)->
   tP.r1 b 0 K r r1 d H:=by
  intro r r1 d E A R;unfold tP.r1;rw[A]at k;refine⟨_,_,_,h.r 0,?_⟩;exact R _ λw y=>⟨_,rfl,λ_=>k _ (iy.2 ⟨_,_,y⟩),λm=>by cases m⟩
 by_cases A:e=0
 .subst A
  cases hu:rdU 0 0 bs with
  | ok u n=>
   obtain⟨V,T,U⟩:=qq hb hu;rw[hu]at f;unfold cntV at f;dsimp only at f
   by_cases hm1:max most 0<(u:Int)
   .rw [V5 hm1]at f;refine⟨_,_,_,h.r 0,_,_,_,f,λ_=>trivial,_,_,_,λ_=>h.r 0,λB i=>⟨λm=>by simp at m,λ_=>i _ _ ?_⟩⟩
    exact fin _ _ _ 17 (by unfold aZ;simp[hu,hm1]) λv j=>nJ h (by decide) j
   .rw [V4 hm1]at f;unfold aF at hm;have O:(u:Int)<=9223372036854775807:=by omega
    have e1:i64.wrap (((bs.length:Nat):Int)-(n:Int))=((bs.length-n:Nat):Int):=by rw[aJ];omega
    refine⟨_,_,_,h.r 0,_,_,_,f,λ_=>trivial,_,_,_,λ_=>h.r 0,λB i=>⟨λx=>i _ _ ?_,λx=>i _ _ ?_⟩⟩
    .rw [e1]at x;have G:bs.length<n+u:=by simp at x;omega
     exact fin _ _ _ 15 (by unfold aZ;simp[hu,hm1,G]) λv j=>nJ h (by decide) j
    .rw [e1]at x;have C:¬bs.length<n+u:=by simp at x;omega
     have S:aZ most ⟨0,bs⟩=((bs.drop n).take u,⟨0,bs.drop (n+u)⟩):=by unfold aZ;simp[hu,hm1,C]
     rw[S]at k;unfold tP.r1;have e2:i64.wrap ((n:Int)+(u:Int))=((n+u:Nat):Int):=by rw[aJ];omega
     refine⟨_,_,_,h.r 0,?_⟩;rw[e2];refine zp h (by omega) N λw y=>⟨_,rfl,(λm=>by cases m),λ_=>⟨⟨by omega,by omega,by omega⟩,bG ((bs.drop n).take u),?_,k _ ?_⟩⟩
     .rw [VJ,VJ,Yf];have Q:=y.tl.sl_rd 0 rfl;have I:=(Q.subB (k:=n) (c:=c) (by simpa using N)).take u;rw[<-List.map_drop,<-List.map_take]at I;have L:=rR (c:=c-n) (slB_is y.tl) I;rw[VY,VU,WX (by omega)]at L;exact L
     .have J:=y.sl_drop 1 rfl (n+u) (by omega);rw[W2,<-List.map_drop]at J;refine iy.2 ⟨cq a (n+u) c 1,c-(n+u),?_⟩;dsimp only;rw[VU];exact J
  | form=>
   rw[hu]at f;refine⟨_,_,_,h.r 0,_,_,_,f,λ_=>trivial,_,_,_,λ_=>h.r 0,λB i=>⟨λm=>by simp at m,λ_=>i _ _ ?_⟩⟩
   exact fin _ _ _ 10 (by unfold aZ;simp[hu]) λv j=>nJ h (by decide) j
  | ended=>
   rw[hu]at f;refine⟨_,_,_,h.r 0,_,_,_,f,λ_=>trivial,_,_,_,λ_=>h.r 0,λB i=>⟨λm=>by simp at m,λ_=>i _ _ ?_⟩⟩
   exact fin _ _ _ 15 (by unfold aZ;simp[hu]) λv j=>nJ h (by decide) j
 .have D:∃r r1 r2:Int,cntV most (rdU 0 0 bs)=.tuple #[.int .i64 r,.int .i64 r1,.int .i64 r2]:=by
   unfold cntV
   split
   .split <;> exact⟨_,_,_,rfl⟩
   .exact⟨_,_,_,rfl⟩
   .exact⟨_,_,_,rfl⟩
  obtain⟨r,r1,r2,D⟩:=D;rw[D]at f;have t:∀d,tP.r1 b 0 K r r1 d H:=λd=>fin r r1 d e (by unfold aZ;simp[A]) λv j=>wo h A (j _ h)
  exact⟨_,_,_,h.r 0,_,_,_,f,λ_=>trivial,_,_,_,λ_=>h.r 0,λB i=>⟨λx=>i _ _ (t _),λ_=>i _ _ (t _)⟩⟩
end
theorem tR{a b:List Int}(c:aI a)(hb:aI b):aI (a++b):=λx d=>(VV.1 d).elim (c x) (hb x)
theorem tS{a:List Int}(n:Nat)(b:aI a):aI (a.take n):=λx c=>b x (W0 c)
theorem oX{a:List Int}(n:Nat)(b:aI a):aI (a.drop n):=λx c=>b x (WH c)
theorem qr{xs:List Int}(h:aI xs)(i:Nat)(hi:i<xs.length):((UInt8.ofNat (xs[i]).toNat).toNat:Int)=xs[i]:=by
 have:=h _ (VL hi);rw[UInt8.toNat_ofNat'];omega
section
variable {F L:List aE}{H:aC}{K:KE}
theorem sl_same{H:aC}{a:KQ}{cs:Os}{c:Nat}(h:aP H a cs)(h0:cs≠[]):cq a 0 c 1=a:=by
 cases cs with
 | nil=>exact V6 rfl h0
 | cons v r=>exact slB0 (h 0 v rfl).1
end
section
variable {F L:List aE}{H:aC}{K:KE}
theorem wp{t:List Int}(hb:aI t)(h:aA H L)(k:∀a c x,aA x (slA 5 1 a t.length c (t.map U8)::L)->K (.slice a t.length c) x) :
  cB Tryz.prog (convert 9 43 (.string (bG t))) H K:=by
 refine .mk λw A=>?_
 subst A;have hs:(bG t).size=t.length:=strOfNums_size t;have s:=run_bytes_of_string w 9 43 5 (bG t) (P:=Tryz.prog) (by kernel_rfl) (by kernel_rfl) (by kernel_rfl);rw[hs]at s;have d:=grownCap_ge w t.length 0 5;obtain⟨cap,m⟩:∃cap,grownCap w t.length 0 5=cap:=⟨_,rfl⟩;rw[m]at s d;have f:(bytesRow (bG t) cap).toList=t.map U8++List.replicate (cap-t.length) (U8 0):=by
  have e1:(bytesRow (bG t) cap).toList=(bG t).data.toList.map (λb=>U8 (b.toNat:Int))++List.replicate (cap-(bG t).size) (U8 0):=by
   unfold bytesRow;simp only[Array.toList_append,Array.toList_map,Array.toList_replicate]
  have e2:(bG t).data.toList.map (λb=>U8 (b.toNat:Int))=t.map U8:=by
   have:(bG t).data.toList=t.map λn=>UInt8.ofNat n.toNat:=strOfNums_data t
   rw[this,Wu];refine W9 (by simp) λi B u=>?_
   simp only[W3,Function.comp_apply];rw[qr hb i (by simpa using u)]
  rw[e1,e2,hs]
 have e:bytesRow (bG t) cap=(t.map U8++List.replicate (cap-t.length) (U8 0)).toArray:=by
  have:=congrArg List.toArray f
  rwa[Array.toArray_toList]at this
 refine⟨_,_,s,⟨rfl,rfl,rfl⟩,k _ _ _ ?_⟩;rw[e];have j:aA _ _:=h.push (.cells (t.map U8++List.replicate (cap-t.length) (U8 0)).toArray 5 ((t.map U8++List.replicate (cap-t.length) (U8 0)).toArray.size,(t.map U8++List.replicate (cap-t.length) (U8 0)).toArray.size+1));generalize hC:t.map U8++List.replicate (cap-t.length) (U8 0)=C at j;have v:C.length=cap:=by rw[<-hC];simp;omega
 refine aA.mono j λp j=>⟨by simp,.inr ⟨_,[],List.replicate (cap-t.length) (U8 0),5,(C.toArray.size,C.toArray.size+1),rfl,d,by simp,λ_ i B u D=>?_,?_⟩⟩
 .have y:=D.1;simp only[List.size_toArray,v]at y;simp only[VZ]at u;omega
 .rw [Wl,hC];exact j
end
open  Go.RowKit Go.Maps Go.Sort Go.Shelf
theorem P0{H:aC}{L:List aE}{a:KQ}{c:Nat}{xs:List Int}(h:aA H L)(i:Nat)(N:aW i L=slA 3 1 a xs.length c (xs.map (Value.int .i64)))(y:xs.length<4611686018427387904){K:KE}
  (k:∀E,aA E (put i (slA 3 1 a xs.length c ((sortI xs).map (Value.int .i64))) L)->K (.tuple #[]) E) :
  CF 256 #[.slice a xs.length c] H K:=by
 refine .mk λw I=>?_
 subst I;have D:=h.foc i;rw[N]at D;obtain⟨Q,⟨rfl,P,rfl,s⟩|⟨b,pre,post,A,fr,rfl,x,u,m,s⟩⟩:=ky D
 .have M:xs=[]:=WK.1 P;subst M;refine jk (AnyM.slices_Sort_int_none Tryz.sortI none 0 w) ?_;rintro e F ⟨rfl,rfl⟩;refine⟨_,rfl,⟨rfl,rfl,rfl⟩,k _ (aA.back ?_)⟩;rw[show (sortI ([]:List Int))=[] from yJ List.Pairwise.nil];exact rA s
 .have hb:=aQ.get s;have C:b<w.heap.size:=aQ.lt s;have J:Holds (Value.int .i64) w b pre.length xs.toArray:=by
   intro j t;have d:j<xs.length:=by simpa using t
   refine⟨?_,?_⟩
   case refine_2=>
    have:=m (pre.length+j) (by omega) (by omega);simp only[World.frozen?,hb,Wo,VD];omega
   simp only[World.cell?,hb,Option.isSome_none,Ye,if_false,List.getElem?_toArray];rw[VK,List.getElem?_append_right (by omega),Yf,List.getElem?_append_left (by simpa using d),List.getElem?_map,List.getElem?_eq_getElem d];simp[d]
  refine jk (AnyM.slices_Sort_int Tryz.sortI b pre.length c xs w J C y) ?_;rintro e F ⟨rfl,n,os,rfl⟩;refine⟨_,rfl,⟨rfl,rfl,rfl⟩,k _ (aA.back ?_)⟩;have hs:(sortI xs).length=xs.length:=vR xs;have v:aQ (w.heap.modify b (onCells (putCells (Value.int .i64) pre.length (sortI xs).toArray))) (pt b (.cells (pre++(sortI xs).map (Value.int .i64)++post).toArray A fr)*star (del i L)):=by
   refine aQ.upd s ?_ λj t=>?_
   .rw [Array.getElem?_modify,V5 rfl,hb];simp only[Wj,onCells];rw[Pt _ _ _ _ (by simp[hs])]
   .rw [Array.getElem?_modify,V4 (Ne.symm t)]
  have G:aQ (w.heap.modify b (onCells (putCells (Value.int .i64) pre.length (sortI xs).toArray))++os.toList.toArray) (pt b (.cells (pre++(sortI xs).map (Value.int .i64)++post).toArray A fr)*star (del i L)):=
   v.grow λj t=>by rw[Array.getElem?_append_left t]
  have f:=G.frame (B:=slA 3 1 (some ⟨b,pre.length,none⟩) xs.length c ((sortI xs).map (Value.int .i64))) λp O=>⟨by simp[hs],.inr ⟨b,pre,post,A,fr,rfl,x,u,λ_=>m,O⟩⟩
  simpa[grow,putRow,mapBlock,Sort.ahead,sortI] using f
theorem tT(x:Int):0<=u64.wrap x/\u64.wrap x<18446744073709551616:=by
 simp only[IntKind.wrap,IntKind.bits,IntKind.signed]
 constructor
 .simp;omega
 .simp;omega
theorem i64in(x:Int):aF (i64.wrap x):=by
 unfold aF;simp only[IntKind.wrap,IntKind.bits,IntKind.signed];simp;omega
def qt(v:Int):Int:=aY .xor .u64 (u64.wrap ((u64.wrap v)*2^(min (Int.toNat 1) (u64.bits)))) (u64.wrap (Int.fdiv v (2^(min (Int.toNat 63) (i64.bits)))))
def rS(u:Int):Int:=aY .xor .i64 (i64.wrap (Int.fdiv u (2^(min (Int.toNat 1) (u64.bits))))) (i64.wrap (0-(i64.wrap (aY .and .u64 u 1))))
theorem Gl(v:Int):0<=qt v/\qt v<18446744073709551616:=tT _
theorem rT(u:Int):aF (rS u):=i64in _
def turnN(v:Int):Nat:=(qt v).toNat
theorem zq(v:Int):(turnN v:Int)=qt v:=Y2 (Gl v).1
theorem tU(v:Int):turnN v<18446744073709551616:=by have b:=zq v;have a:=Gl v;omega
def eJ(l:List Nat):List Int:=l.flatMap bR
def cY(l:List Int):List Int:=l.flatMap λv=>bR (turnN v)
def dd(s:Fa):List Int:=bR s.size++fh s
def dC(l:List Fa):List Int:=l.flatMap dd
theorem dD{a b:List Int}(c:aI a)(hb:aI b):aI (a++b):=λx d=>(VV.1 d).elim (c x) (hb x)
theorem jz{α:Type}{f:α->List Int}{l:List α}(h:∀x∈l,aI (f x)):aI (l.flatMap f):=λx a=>by
 obtain⟨y,b,a⟩:=Ym.1 a;exact h y b x a
theorem kB:aI []:=λx a=>by cases a
theorem zr(l:List Nat):aI (eJ l):=jz λ_ _=>oU _
theorem tV(l:List Int):aI (cY l):=jz λ_ _=>oU _
theorem qu(s:Fa):aI (dd s):=dD (oU _) (NI s)
theorem P3(l:List Fa):aI (dC l):=jz λ_ _=>qu _
theorem tW:∀{l:List Nat},(∀u∈l,u<18446744073709551616)->(eJ l).length<=10*l.length
 | [],_=>by simp[eJ]
 | u::r,h=>by
  have c:=om (h u VO);have a:=tW (l:=r) λx b=>h x (VQ _ b)
  simp only[eJ,Wg,V7,VE]at a ⊢;omega
theorem mC:∀(l:List Int),(cY l).length<=10*l.length
 | []=>by simp[cY]
 | v::r=>by
  have b:=om (tU v);have a:=mC r;simp only[cY,Wg,V7,VE]at a ⊢;omega
theorem lJ{s:Fa}(h:s.size<18446744073709551616):(dd s).length<=10+s.size:=by
 have:=om h;rw[dd,V7,tF];omega
theorem jP{α β:Type}{f:α->List β}{l:List α}{i:Nat}(h:i<l.length):(l.take (i+1)).flatMap f=(l.take i).flatMap f++f l[i]:=by
 rw[List.take_add_one,List.getElem?_eq_getElem h,W4];simp
def bM(s:RS):Nat×RS:=if s.e≠0 then (0,s) else match rdU 0 0 s.bs with
 | .ok u n=>(u,⟨0,s.bs.drop n⟩)
 | .form=>(0,⟨10,s.bs⟩)
 | .ended=>(0,⟨15,s.bs⟩)
def dE(s:RS):Int×RS:=(rS (bM s).1,(bM s).2)
def dF(s:RS):RS:=if s.bs=[] then s else if s.e≠0 then s else ⟨10,s.bs⟩
theorem wq{bs:List Int}(n:Nat)(h:aI bs):aI (bs.drop n):=λx a=>h x (WH a)
theorem gK{s:RS}(h:aI s.bs):aI (bM s).2.bs:=by
 unfold bM
 split
 .exact h
 .split
  .exact wq _ h
  .exact h
  .exact h
theorem jQ(s:RS):(bM s).2.bs.length<=s.bs.length:=by
 unfold bM
 split
 .exact VF _
 .split
  .simp only[VU];omega
  .exact VF _
  .exact VF _
theorem wr{s:RS}(h:aI s.bs):(bM s).1<18446744073709551616:=by
 unfold bM
 split
 .exact Ys rfl
 .split
  .rename_i u n a;exact (qq h a).2.2
  .exact Ys rfl
  .exact Ys rfl
theorem rU{s:RS}{m:Int}(h:aI s.bs):aI (bY m s).2.bs:=by
 unfold bY
 split
 .exact h
 .split
  .split
   .exact h
   .exact wq _ h
  .exact h
  .exact h
theorem rV(s:RS)(m:Int):(bY m s).2.bs.length<=s.bs.length:=by
 unfold bY
 split
 .exact VF _
 .split
  .split
   .exact VF _
   .simp only[VU];omega
  .exact VF _
  .exact VF _
theorem lK{s:RS}{m:Int}(h:aI s.bs):aI (aZ m s).2.bs/\aI (aZ m s).1:=by
 unfold aZ
 split
 .exact⟨h,kB⟩
 .split
  .split
   .exact⟨h,kB⟩
   .split
    .exact⟨h,kB⟩
    .exact⟨wq _ h,λx a=>wq _ h x (W0 a)⟩
  .exact⟨h,kB⟩
  .exact⟨h,kB⟩
theorem mD(s:RS)(m:Int):(aZ m s).2.bs.length<=s.bs.length/\(aZ m s).1.length<=s.bs.length:=by
 unfold aZ
 split
 .exact⟨VF _,Wd _⟩
 .split
  .split
   .exact⟨VF _,Wd _⟩
   .split
    .exact⟨VF _,Wd _⟩
    .simp only[VU,VY];omega
  .exact⟨VF _,Wd _⟩
  .exact⟨VF _,Wd _⟩
section
variable {F L:List aE}{H:aC}{K:KE}
theorem P4{v:Int}:bV Tryz.prog 113 #[.int .i64 v] H (.int .u64 (qt v)):=by
 refine cM 113 28 ?_;exact⟨by decide,by decide,rfl,rfl⟩
theorem P5{u:Int}:bV Tryz.prog 297 #[.int .u64 u] H (.int .i64 (rS u)):=by
 refine cM 297 28 ?_;exact⟨by decide,rfl,rfl⟩
theorem qv{a:KQ}{c:Nat}{us:List Nat}(h:aA H F)(C:∀H,aA H F->aP H a (us.map λu=>.int .u64 (u:Nat)))(y:∀u∈us,u<18446744073709551616)(D:us.length<=1000000)
  (k:∀m f d,aA d (slA 5 1 m (eJ us).length f ((eJ us).map U8)::F)->K (.slice m (eJ us).length f) d) :
  CF 111 #[.slice a us.length c] H K:=by
 refine cN 111 0x1121561239925144c [[(3,sS),(8,sI)]] ?_;refine⟨λm B f i d=>∃j:Nat,i=j/\j<=us.length/\B=(eJ (us.take j)).length/\aA d (slA 5 1 m (eJ (us.take j)).length f ((eJ (us.take j)).map U8)::F),λ_ _ _ i _=>us.length-i.toNat,
  ⟨0,rfl,Wd _,rfl,h.sl_nil 5 1⟩,?_⟩
 rintro a1 n1 c1 i G ⟨j,rfl,E,rfl,n⟩;refine⟨λs=>?_,λs=>?_⟩
 .have b:j<us.length:=by simpa using s
  have w:=(C _ n.tl).at b;refine⟨⟨by omega,by omega⟩,_,_,w.1,us[j],w.2,?_⟩;have x:i64.wrap ((j:Int)+1)=((j+1:Nat):Int):=by rw[aJ];omega
  have e:eJ (us.take (j+1))=eJ (us.take j)++bR us[j]:=jP b;have hb:(eJ (us.take j)).length<=1099511627776:=by
   have:=tW (l:=us.take j) λu v=>y u (W0 v)
   rw[VY]at this;omega
  refine wm n hb (y _ (VL b)) λm f d A=>⟨_,_,_,rfl,⟨j+1,x,b,by rw[e],?_⟩,by rw[x];simp only[VJ];omega⟩
  rw[e];exact A
 .have t:us.length<=j:=by simpa using s
  have e:us.take j=us:=Wc t;rw[e]at n ⊢;exact k _ _ _ n
theorem Gm{a:KQ}{c:Nat}{vs:List Int}(h:aA H F)(A:∀H,aA H F->aP H a (vs.map λv=>.int .i64 v))(B:vs.length<=1000000)
  (k:∀m f d,aA d (slA 5 1 m (cY vs).length f ((cY vs).map U8)::F)->K (.slice m (cY vs).length f) d) :
  CF 51 #[.slice a vs.length c] H K:=by
 refine cN 51 0x1121561239925144c [[(3,sS),(8,sI)]] ?_;refine⟨λm y f i d=>∃j:Nat,i=j/\j<=vs.length/\y=(cY (vs.take j)).length/\aA d (slA 5 1 m (cY (vs.take j)).length f ((cY (vs.take j)).map U8)::F),λ_ _ _ i _=>vs.length-i.toNat,
  ⟨0,rfl,Wd _,rfl,h.sl_nil 5 1⟩,?_⟩
 rintro a1 n1 c1 i D ⟨j,rfl,C,rfl,n⟩;refine⟨λs=>?_,λs=>?_⟩
 .have b:j<vs.length:=by simpa using s
  have u:=(A _ n.tl).at b;refine⟨⟨by omega,by omega⟩,_,_,u.1,vs[j],u.2,_,P4,?_⟩;have w:i64.wrap ((j:Int)+1)=((j+1:Nat):Int):=by rw[aJ];omega
  have e:cY (vs.take (j+1))=cY (vs.take j)++bR (turnN vs[j]):=jP b;have hb:(cY (vs.take j)).length<=1099511627776:=by
   have:=mC (vs.take j);rw[VY]at this;omega
  conv=>whnf
  rw[<-zq];refine wm n hb (tU _) λm f d x=>⟨_,_,_,rfl,⟨j+1,w,b,by rw[e],?_⟩,by rw[w];simp only[VJ];omega⟩
  rw[e];exact x
 .have t:vs.length<=j:=by simpa using s
  have e:vs.take j=vs:=Wc t;rw[e]at n ⊢;exact k _ _ _ n
theorem wt{a:KQ}{c:Nat}{ts:List Fa}(h:aA H F)(J:∀H,aA H F->aP H a (ts.map λs=>.string s))(hs:∀i,(dC (ts.take i)).length<=1000000000)(E:∀s∈ts,s.size<=1000000000)(M:ts.length<=1000000)
  (k:∀d n m,aA m (slA 5 1 d (dC ts).length n ((dC ts).map U8)::F)->K (.slice d (dC ts).length n) m) :
  CF 131 #[.slice a ts.length c] H K:=by
 refine cN 131 0x1121561239925144c [[(3,sS),(8,sI)]] ?_;refine⟨λd I n i m=>∃j:Nat,i=j/\j<=ts.length/\I=(dC (ts.take j)).length/\aA m (slA 5 1 d (dC (ts.take j)).length n ((dC (ts.take j)).map U8)::F),λ_ _ _ i _=>ts.length-i.toNat,
  ⟨0,rfl,Wd _,rfl,h.sl_nil 5 1⟩,?_⟩
 rintro a1 n1 c1 i L ⟨j,rfl,N,rfl,t⟩;refine⟨λv=>?_,λv=>?_⟩
 .have b:j<ts.length:=by simpa using v
  have y:=(J _ t.tl).at b;have D:=E _ (VL b);refine⟨⟨by omega,by omega⟩,_,_,y.1,ts[j],y.2,?_⟩;have A:i64.wrap ((j:Int)+1)=((j+1:Nat):Int):=by rw[aJ];omega
  have w:u64.wrap ((ts[j].size:Nat):Int)=((ts[j].size:Nat):Int):=u64w (by omega) (by omega);have e:dC (ts.take (j+1))=(dC (ts.take j)++bR ts[j].size)++fh ts[j]:=by
   rw[VK];exact jP (f:=dd) b
  have hb:=hs j;have B:=om (u:=ts[j].size) (by omega)
  conv=>whnf
  rw[w];refine wm t (by omega) (by omega) λd n m G=>⟨_,_,_,rfl,?_⟩
  refine G.appendS sl32 (ts:=9) (by kernel_rfl) 0 rfl (by rw[V7];omega) (by rw[V7];omega) λa2 c2 O C=>⟨_,_,_,rfl,⟨j+1,A,b,?_,?_⟩,by rw[A];simp only[VJ];omega⟩
  .rw [e,V7 (bs:=fh ts[j]),tF]
  .rw [e,V7 (bs:=fh ts[j]),tF,VW (l₂:=fh ts[j])];exact C
 .have x:ts.length<=j:=by simpa using v
  have e:ts.take j=ts:=Wc x;rw[e]at t ⊢;exact k _ _ _ t
theorem nL{b:Nat}{s:RS}(h:aA H (crdA b s::F))(hb:aI s.bs)(v:s.bs.length<=1099511627776)
  (k:∀j,aA j (crdA b (bM s).2::F)->K (.int .u64 ((bM s).1:Nat)) j) :
  CF 171 #[.pointer (some ⟨b,0,none⟩)] H K:=by
 obtain⟨e,bs⟩:=s;dsimp only at hb v;obtain⟨a,c,h⟩:=iy.1 h;dsimp only at h;have x:=h.sl_rd 1 rfl;have y:=h.sl_nc 1 rfl;refine cM 171 4572 ?_;have d:=Gj (c:=c) x hb v
 by_cases he:e=0
 .subst he
  cases hu:rdU 0 0 bs with
  | ok u n=>
   obtain⟨B,t,A⟩:=qq hb hu;rw[hu]at d;unfold firV at d;dsimp only at d;refine⟨_,_,_,h.r 0,_,_,_,d,?_⟩;have ec:bM ⟨0,bs⟩=(u,⟨0,bs.drop n⟩):=by unfold bM;simp[hu]
   rw[ec]at k;refine zp h t y λj i=>⟨_,rfl,(λf=>by cases f),λ_=>k _ ?_⟩
   have w:=i.sl_drop 1 rfl n t;rw[W2,<-List.map_drop]at w;refine iy.2 ⟨cq a n c 1,c-n,?_⟩;dsimp only;rw[VU];exact w
  | form=>
   rw[hu]at d;have ec:bM ⟨0,bs⟩=(0,⟨10,bs⟩):=by unfold bM;simp[hu]
   rw[ec]at k;refine⟨_,_,_,h.r 0,_,_,_,d,?_⟩;exact nJ h (by decide) λj i=>⟨_,rfl,λ_=>k _ (iy.2 ⟨_,_,i⟩),λf=>by cases f⟩
  | ended=>
   rw[hu]at d;have ec:bM ⟨0,bs⟩=(0,⟨15,bs⟩):=by unfold bM;simp[hu]
   rw[ec]at k;refine⟨_,_,_,h.r 0,_,_,_,d,?_⟩;exact nJ h (by decide) λj i=>⟨_,rfl,λ_=>k _ (iy.2 ⟨_,_,i⟩),λf=>by cases f⟩
 .have ec:bM ⟨e,bs⟩=(0,⟨e,bs⟩):=by unfold bM;simp[he]
  rw[ec]at k;have m:∃r r1 r2:Int,firV (rdU 0 0 bs)=.tuple #[.int .u64 r,.int .i64 r1,.int .i64 r2]:=by
   unfold firV
   split <;> exact⟨_,_,_,rfl⟩
  obtain⟨r,r1,r2,m⟩:=m;rw[m]at d;refine⟨_,_,_,h.r 0,_,_,_,d,?_⟩;exact wo h he ⟨_,rfl,λ_=>k _ (iy.2 ⟨_,_,h⟩),λf=>by cases f⟩
theorem wu{b:Nat}{s:RS}(h:aA H (crdA b s::F))(hb:aI s.bs)(d:s.bs.length<=1099511627776)
  (k:∀a,aA a (crdA b (dE s).2::F)->K (.int .i64 (dE s).1) a) :
  CF 252 #[.pointer (some ⟨b,0,none⟩)] H K:=by
 refine cM 252 28 ?_;exact nL h hb d λa c=>⟨_,rfl,_,P5,k _ c⟩
theorem wv{b:Nat}{s:RS}(h:aA H (crdA b s::F))
  (k:∀j,aA j (crdA b (dF s)::F)->K (.int .i64 (dF s).e) j) :
  CF 177 #[.pointer (some ⟨b,0,none⟩)] H K:=by
 obtain⟨e,bs⟩:=s;obtain⟨a,c,h⟩:=iy.1 h;dsimp only at h;refine cN 177 18969756 [[]] ?_;refine⟨_,_,_,h.r 0,λt m=>⟨λi=>?_,λi=>?_⟩⟩
 .have f:bs≠[]:=by
   rintro rfl
   cases i
  by_cases d:e=0
  .subst d;have ec:dF ⟨0,bs⟩=⟨10,bs⟩:=by unfold dF;simp[f]
   rw[ec]at k;refine nJ h (by decide) λj n=>⟨_,rfl,m _ ?_⟩
   exact⟨_,n.r 0,k _ (iy.2 ⟨_,_,n⟩)⟩
  .have ec:dF ⟨e,bs⟩=⟨e,bs⟩:=by unfold dF;simp[f,d]
   rw[ec]at k;refine wo h d ⟨_,rfl,m _ ?_⟩;exact⟨_,h.r 0,k _ (iy.2 ⟨_,_,h⟩)⟩
 .have d:bs=[]:=by
   cases bs with
   | nil=>rfl
   | cons x r=>exfalso;simp at i
  have ec:dF ⟨e,bs⟩=⟨e,bs⟩:=by unfold dF;simp[d]
  rw[ec]at k;refine m _ ?_;exact⟨_,h.r 0,k _ (iy.2 ⟨_,_,h⟩)⟩
end
theorem Gn{l a:List aE}(h:l.Perm a):star l=star a:=by
 induction h with
 | nil=>rfl
 | cons x _ ih=>simp only[star,ih]
 | swap x y l=>simp only[star];rw[vG]
 | trans _ _ ih1 ih2=>exact ih1.trans ih2
section
variable {κ α:Type}[DecidableEq κ]
theorem P6{x:κ}{v:α}{m:List (κ×α)}(d:(aG m).Nodup)(h:aK x m=some v):m.Perm ((x,v)::bU x m):=by
 obtain⟨i,a,_⟩:=getElem?_of_mlook h;have b:=El (u:=v) d a;have c:m.set i (x,v)=m:=by
  apply WU;intro j;rw[List.getElem?_set]
  split
  .rename_i e;subst e;rw[a,V5 (List.getElem?_eq_some_iff.1 a).1]
  .rfl
 rw[c]at b;exact b
end
structure Fy where
 a:KQ
 c:Nat
 bs:List Int
def Fy.z:Fy:=⟨none,0,[]⟩
abbrev dV(y:Fy):Value:=.slice y.a y.bs.length y.c
abbrev YM:=List (Int×Fy)
def rowY(y:Fy):aE:=slA 5 1 y.a y.bs.length y.c (y.bs.map U8)
def rowsY(m:YM):aE:=star (m.map λp=>rowY p.2)
theorem P7{m m':YM}(h:m.Perm m'):rowsY m=rowsY m':=Gn (h.map _)
theorem Gq(k:Int)(y:Fy)(m:YM):rowsY ((k,y)::m)=rowY y*rowsY m:=rfl
theorem ww{H:aC}{L:List aE}:aA H (emp::L)↔aA H L:=by unfold aA;simp only[star];rw[oO]
theorem aA.rowsY_out{H:aC}{L:List aE}{m:YM}{k:Int}{y:Fy}(b:(aG m).Nodup)(a:aK k m=some y):aA H (rowsY m::L)↔aA H (rowY y::rowsY (bU k m)::L):=by
 rw[P7 (P6 b a),Gq];exact gy
theorem aA.rowsY_in{H:aC}{L:List aE}{m:YM}{k:Int}{y:Fy}:aA H (rowsY (mset k y m)::L)↔aA H (rowY y::rowsY (bU k m)::L):=by
 unfold mset;rw[Gq];exact gy
abbrev DR:=List (Int×Int)
def bytesOf(f:Int)(rows:DR):List Int:=(rows.filter λr=>decide (r.1=f)).map Prod.snd
theorem qw(f:Int)(a b:DR):bytesOf f (a++b)=bytesOf f a++bytesOf f b:=by simp[bytesOf]
theorem zu(f:Int)(bs:List Int):bytesOf f (bs.map λb=>(f,b))=bs:=by
 induction bs with
 | nil=>rfl
 | cons b r ih=>simp only[bytesOf,Wf,Wm,decide_true,if_true]at ih ⊢;rw[ih]
theorem zv{f g:Int}(h:f≠g)(bs:List Int):bytesOf f (bs.map λb=>(g,b))=[]:=by
 induction bs with
 | nil=>rfl
 | cons b r ih=>
  have:¬g=f:=λe=>h e.symm
  simp[bytesOf,Wm,this]at ih ⊢
  try exact ih
theorem P8{f:Int}{t:DR}(h:∀r∈t,r.1=f):bytesOf f t=t.map Prod.snd:=by
 unfold bytesOf;rw[Yz.2 λr a=>by simp[h r a]]
theorem P9{f g:Int}{t:DR}(h:∀r∈t,r.1=f)(b:g≠f):bytesOf g t=[]:=by
 unfold bytesOf;rw[WQ.2 λr a=>by simp[h r a];exact λe=>b e.symm]
 rfl
theorem PB(f g:Int)(rows:DR):bytesOf g (rows.filter λr=>decide (r.1≠f))=if g=f then [] else bytesOf g rows:=by
 unfold bytesOf;rw[List.filter_filter]
 split
 .rename_i e;subst e;rw[WQ.2 λr _=>by simp];rfl
 .rename_i e;congr 1;apply Y3;intro r _
  by_cases h:r.1=g
  .simp [h,e]
  .simp [h]
theorem tX(f:Int)(rows:DR):(bytesOf f rows).length<=rows.length:=by
 unfold bytesOf;rw[VM];exact Y4 _ _
theorem Gr{f:Int}{rows:DR}:bytesOf f rows≠[]↔f∈rows.map Prod.fst:=by
 unfold bytesOf;rw[Ne,List.map_eq_nil_iff,WQ]
 constructor
 .intro h
  rcases Classical.em (f∈rows.map Prod.fst) with a|a
  .exact a
  .exact V6 (λr b=>by simp;exact λe=>a (VH.2 ⟨r,b,e⟩)) h
 .intro h a;obtain⟨r,b,e⟩:=VH.1 h;have:=a r b;simp[e]at this
structure FOk(m:YM)(rows:DR):Prop where
 nd:(aG m).Nodup
 is:∀f,(aK f m).map Fy.bs=if bytesOf f rows=[] then none else some (bytesOf f rows)
theorem FOk.new:FOk [] []:=⟨by simp,λf=>by simp[bytesOf,aK]⟩
theorem FOk.get{m:YM}{rows:DR}(h:FOk m rows)(f:Int):((aK f m).getD Fy.z).bs=bytesOf f rows:=by
 have:=h.is f
 cases hm:aK f m with
 | none=>
  rw[hm]at this
  split at this
  .rename_i e;rw[e];rfl
  .cases this
 | some y=>
  rw[hm]at this
  split at this
  .cases this
  .exact Option.some.inj this
theorem FOk.some{m:YM}{rows:DR}(h:FOk m rows){f:Int}{y:Fy}(hm:aK f m=some y):y.bs=bytesOf f rows/\y.bs≠[]:=by
 have:=h.is f;rw[hm]at this
 split at this
 .cases this
 .rename_i a;have e:=Option.some.inj this;exact⟨e,by rw[e];exact a⟩
theorem FOk.none{m:YM}{rows:DR}(h:FOk m rows){f:Int}:aK f m=none↔bytesOf f rows=[]:=by
 have:=h.is f
 constructor
 .intro hm;rw[hm]at this
  split at this
  .assumption
  .cases this
 .intro hb;rw[V5 hb]at this;exact Option.map_eq_none_iff.1 this
theorem FOk.keys{m:YM}{rows:DR}(h:FOk m rows){f:Int}:f∈aG m↔f∈rows.map Prod.fst:=by
 rw[<-Gr,Ne,<-h.none,fu,Classical.not_not]
theorem FOk.append{m:YM}{rows:DR}(h:FOk m rows){f:Int}{bs:List Int}{y:Fy}(hb:bs≠[])(a:y.bs=bytesOf f rows++bs):FOk (mset f y m) (rows++bs.map λb=>(f,b)):=by
 refine⟨oP h.nd,λg=>?_⟩
 rw[lD,qw]
 by_cases e:g=f
 .subst e;rw[V5 rfl,zu,V4 (by simp[hb])];simp[a]
 .rw [V4 e,zv e,We];exact h.is g
theorem FOk.cut{m:YM}{a t:DR}(h:FOk m (a++t)){f:Int}(c:∀r∈t,r.1=f) :
  (bytesOf f a=[]->FOk (bU f m) a)/\(∀y,y.bs=bytesOf f a->bytesOf f a≠[]->FOk (mset f y m) a):=by
 have b:∀g,g≠f->bytesOf g (a++t)=bytesOf g a:=λg i=>by rw[qw,P9 c i,We]
 constructor
 .intro hb;refine⟨rD h.nd,λg=>?_⟩
  rw[vO]
  by_cases e:g=f
  .subst e;rw[V5 rfl,V5 hb];rfl
  .rw [V4 e,<-b g e];exact h.is g
 .intro y d hb;refine⟨oP h.nd,λg=>?_⟩
  rw[lD]
  by_cases e:g=f
  .subst e;rw[V5 rfl,V4 hb,<-d];rfl
  .rw [V4 e,<-b g e];exact h.is g
theorem FOk.delete{m:YM}{rows:DR}(h:FOk m rows)(f:Int):FOk (bU f m) (rows.filter λr=>decide (r.1≠f)):=by
 refine⟨rD h.nd,λg=>?_⟩
 rw[vO,PB]
 by_cases e:g=f
 .rw [V5 e,V5 e,V5 rfl];rfl
 .rw [V4 e,V4 e];exact h.is g
theorem zw:∀(rows:DR) (ks:List Int),ks.Nodup->(∀r∈rows,r.1∈ks)->(ks.map λk=>(bytesOf k rows).length).sum=rows.length
 | [],ks,_,_=>by
  have:∀l:List Int,(l.map λk=>(bytesOf k []).length).sum=0:=by
   intro l
   induction l with
   | nil=>rfl
   | cons k r b=>rw[Wf,Yb,b];rfl
  exact this ks
 | x::rows,ks,hn,h=>by
  have b:=zw rows ks hn (λr d=>h r (VQ _ d))
  have f:=h x VO;have key:∀l:List Int,l.Nodup->(l.map λk=>(bytesOf k (x::rows)).length).sum=(l.map λk=>(bytesOf k rows).length).sum+(if x.1∈l then 1 else 0):=by
   intro l
   induction l with
   | nil=>intro _;rfl
   | cons k r ih2=>
    intro c;rw[WW]at c;have i2:=ih2 c.2;simp only[Wf,Yb]
    by_cases e:x.1=k
    .have a:¬x.1∈r:=by rw[e];exact c.1
     rw[V4 a]at i2;have:(bytesOf k (x::rows)).length=(bytesOf k rows).length+1:=by simp[bytesOf,Wm,e]
     rw[this,i2,V5 (by rw[e];exact VO)];omega
    .have:(bytesOf k (x::rows)).length=(bytesOf k rows).length:=by simp[bytesOf,Wm,e]
     rw[this,i2]
     by_cases e2:x.1∈r
     .rw [V5 e2,V5 (VQ _ e2)];omega
     .rw [V4 e2,V4 (by simp[e,e2])];omega
  rw[key ks hn,b,V5 f,VE]
theorem FOk.size{m:YM}{rows:DR}(h:FOk m rows):(m.map λp=>p.2.bs.length).sum=rows.length:=by
 have c:=zw rows (aG m) h.nd (λr a=>h.keys.2 (VH.2 ⟨r,a,rfl⟩))
 rw[<-c];unfold aG;rw[Wu];congr 1;apply WP;intro p b;have:=h.some (mo h.nd (show (p.1,p.2)∈m from b));simp only[Function.comp_def];rw[this.1]
theorem FOk.le{m:YM}{rows:DR}(h:FOk m rows):m.length<=rows.length:=by
 rw[<-h.size];have:∀l:YM,(∀p∈l,p.2.bs≠[])->l.length<=(l.map λp=>p.2.bs.length).sum:=by
  intro l
  induction l with
  | nil=>intro _;simp
  | cons p r ih=>
   intro a;have e:=ih λq c=>a q (VQ _ c)
   have d:=Yy.2 (a p VO);simp only[VE,Wf,Yb];omega
 exact this m λp b=>(h.some (mo h.nd (show (p.1,p.2)∈m from b))).2
def oo:List Int->List Int
 | []=>[]
 | a::r=>if a∈r then oo r else a::oo r
theorem zz{x:Int}:∀{l:List Int},x∈oo l↔x∈l
 | []=>Iff.rfl
 | a::r=>by
  have b:=zz (x:=x) (l:=r);unfold oo
  split
  .rename_i h;rw[b,VN];exact⟨Or.inr,λc=>c.elim (λe=>by rw[e];exact h) id⟩
  .rw [VN,VN,b]
theorem zA:∀{l:List Int},(oo l).Nodup
 | []=>List.nodup_nil
 | a::r=>by
  unfold oo
  split
  .exact zA
  .rename_i h;rw[WW];exact⟨λhm=>h (zz.1 hm),zA⟩
def bB(rows:DR):List Int:=sortI (oo (rows.map Prod.fst))
theorem zB:∀{l r:List Int},l.Pairwise (·< ·)->r.Pairwise (·< ·)->(∀x,x∈l↔x∈r)->l=r
 | [],[],_,_,_=>rfl
 | [],b::r,_,_,h=>V6 ((h b).2 VO) (by simp)
 | a::l,[],_,_,h=>V6 ((h a).1 VO) (by simp)
 | a::l,b::r,hl,hr,h=>by
  rw[W5]at hl hr;have e:a=b:=by
   rcases VN.1 ((h a).1 VO) with e|f
   .exact e
   .rcases VN.1 ((h b).2 VO) with e|c
    .exact e.symm
    .have:=hl.1 _ c;have:=hr.1 _ f;omega
  subst e;rw[zB hl.2 hr.2 λx=>?_]
  constructor
  .intro d
   rcases VN.1 ((h x).1 (VQ _ d)) with e|c
   .have:=hl.1 _ d;omega
   .exact c
  .intro d
   rcases VN.1 ((h x).2 (VQ _ d)) with e|c
   .have:=hr.1 _ d;omega
   .exact c
theorem Gs{l:List Int}(h:l.Nodup):(sortI l).Pairwise (·< ·):=by
 have c:=Eo l;have b:(sortI l).Nodup:=(qm l).nodup_iff.2 h;exact (c.and b).imp λa=>by have:=a.1;have:=a.2;omega
theorem oY(rows:DR):(bB rows).Pairwise (·< ·):=Gs zA
theorem j0{rows:DR}{f:Int}:f∈bB rows↔f∈rows.map Prod.fst:=by
 unfold bB;rw[(qm _).mem_iff,zz]
theorem FOk.files{m:YM}{rows:DR}(h:FOk m rows):sortI (aG m)=bB rows:=
 zB (Gs h.nd) (oY rows) λx=>by rw[(qm _).mem_iff,j0];exact h.keys
structure Pc where
 file:Int
 size:Int
abbrev lL(p:Pc):Os:=[.int .i64 p.file,.int .i64 p.size]
theorem oq(p:Pc):(lL p).length=2:=rfl
def gL(pend:List Pc):List Int:=pend.flatMap λp=>List.replicate p.size.toNat p.file
theorem tY(a b:List Pc):gL (a++b)=gL a++gL b:=by simp[gL]
theorem wx(p:Pc):gL [p]=List.replicate p.size.toNat p.file:=by simp[gL]
def cD(pend:List Pc):Int:=(pend.map Pc.size).sum
theorem oZ:∀{pend:List Pc},(∀p∈pend,1<=p.size)->((gL pend).length:Int)=cD pend
 | [],_=>rfl
 | p::r,h=>by
  have b:=oZ (pend:=r) λq a=>h q (VQ _ a)
  have c:=h p VO;simp only[gL,cD,Wg,V7,List.length_replicate,Wf,Yb]at b ⊢;omega
theorem zC:∀{pend:List Pc},(∀p∈pend,1<=p.size)->pend.length<=(gL pend).length
 | [],_=>VF _
 | p::r,h=>by
  have b:=zC (pend:=r) λq a=>h q (VQ _ a)
  have c:=h p VO;simp only[gL,Wg,V7,List.length_replicate,VE]at b ⊢;omega
structure DOk(m:YM)(pend:List Pc)(rows:DR)(syn:Nat):Prop where
 f:FOk m rows
 sle:syn<=rows.length
 p:gL pend=(rows.drop syn).map Prod.fst
 pos:∀q∈pend,1<=q.size
 keys:∀r∈rows,0<=r.1/\r.1<=2147483647
theorem DOk.new:DOk [] [] [] 0:=⟨FOk.new,VF _,rfl,λ_ h=>(by cases h),λ_ h=>(by cases h)⟩
theorem DOk.len{m:YM}{pend:List Pc}{rows:DR}{syn:Nat}(h:DOk m pend rows syn):cD pend=(rows.length:Int)-syn:=by
 have a:=oZ h.pos;rw[h.p,VM,VU]at a;have:=h.sle;omega
theorem DOk.ple{m:YM}{pend:List Pc}{rows:DR}{syn:Nat}(h:DOk m pend rows syn):pend.length<=rows.length:=by
 have a:=zC h.pos;rw[h.p,VM,VU]at a;omega
def zabs(v:Int):Nat:=v.natAbs
def j4(a b:Int):Int×Int:=if aF (a+b) then (a+b,0) else (0,12)
def signS(n:Nat)(neg:Bool):Int×Int:=
 if neg then (if 9223372036854775808<n then (0,12) else (-(n:Int),0)) else (if 9223372036854775807<n then (0,12) else ((n:Int),0))
def pe(a b c:Int)(up:Bool):Int×Int:=
 if c<1 then (0,11) else
 if c.toNat<=zabs a*zabs b/18446744073709551616 then (0,12) else
 let q:=zabs a*zabs b/c.toNat
 if 9223372036854775808<q then (0,12) else
 let neg:=!(decide (a<0) == decide (b<0))
 signS (if !decide (zabs a*zabs b%c.toNat=0) && !(neg == up) then q+1 else q) neg
abbrev gA(rho:Int):Prop:=0<=rho/\rho<=100000
def lowS(x rho:Int):Int×Int:=
 if x < -4611686018427387904\/4611686018427387904<x\/¬gA rho then (0,11) else
 if 0<x then (if 1<(pe (x-1) 1000000 (1000000+rho) true).1 then (pe (x-1) 1000000 (1000000+rho) true).1 else 1,(pe (x-1) 1000000 (1000000+rho) true).2)
 else (i64.wrap (0-(pe (1-x) 1000000 (1000000-rho) false).1),(pe (1-x) 1000000 (1000000-rho) false).2)
def pf(x rho:Int):Int×Int:=
 if x < -4611686018427387904\/4611686018427387904<x then (0,11) else (i64.wrap (0-(lowS (-x) rho).1),(lowS (-x) rho).2)
theorem highS_wf(x rho:Int):aF (pf x rho).1:=by
 unfold pf
 split
 .simp [aF]
 .exact qo _
structure Gp where
 lo:Int
 hi:Int
deriving DecidableEq
def Gp.z:Gp:=⟨0,0⟩
abbrev jR(g:Gp):Os:=[.int .i64 g.lo,.int .i64 g.hi]
abbrev jS(g:Gp):Value:=.agg #[.int .i64 g.lo,.int .i64 g.hi]
abbrev Gp.ok(g:Gp):Prop:=g.lo<=g.hi
def meet2(a b:Gp):Gp:=⟨if b.lo>a.lo then b.lo else a.lo,if b.hi<a.hi then b.hi else a.hi⟩
def mE:Gp->List Gp->Gp×Int
 | s,[]=>if s.ok then (s,0) else (Gp.z,13)
 | s,g::r=>if g.ok then mE (meet2 s g) r else (Gp.z,10)
def kQ(l:List Gp):Gp×Int:=mE ⟨-9223372036854775808,9223372036854775807⟩ l
theorem wy(g:Gp):(jR g).length=2:=rfl
def wA(g:Gp):Int:=if g.ok then u64.wrap ((u64.wrap g.hi)-(u64.wrap g.lo)) else 0
def midS(g:Gp):Int:=if g.ok then i64.wrap ((aY .and .i64 g.lo g.hi)+(Int.fdiv (aY .xor .i64 g.lo g.hi) (2^(min (Int.toNat 1) (i64.bits))))) else 0
section
variable {F L:List aE}{H:aC}{K:KE}
theorem Gt{a b:Int}(d:aF a)(hb:aF b):bV Tryz.prog 235 #[aB a,aB b] H (.tuple #[aB (j4 a b).1,aB (j4 a b).2]):=by
 refine OI ?_;unfold ID;rw[add_over d hb];unfold j4;refine⟨λc=>?_,λc=>?_⟩
 .have:¬aF (a+b):=by simpa using c
  rw[V4 this];exact⟨rfl,rfl⟩
 .have:aF (a+b):=by simpa using c
  rw[V5 this];have e:i64.wrap (a+b)=a+b:=aJ (by unfold aF at this;omega) (by unfold aF at this;omega);rw[e];exact⟨rfl,rfl⟩
theorem Gu{v:Int}(h:aF v):bV Tryz.prog 330 #[aB v] H (.int .u64 (zabs v:Nat)):=by
 refine Oq ?_;unfold zabs;unfold aF at h;refine⟨λa=>⟨?_,rfl⟩,λa=>⟨?_,rfl⟩⟩
 .simp only[VA]at a;rw[df,df];congr 1;omega
 .simp only[VD]at a;rw[df];congr 1;omega
theorem Gv{n:Nat}{neg:Bool}(h:n<18446744073709551616):bV Tryz.prog 332 #[.int .u64 (n:Nat),.bool neg] H (.tuple #[aB (signS n neg).1,aB (signS n neg).2]):=by
 refine cM 332 4852664796 ?_;unfold signS
 cases neg
 .refine⟨λb=>by simp at b,λ_=>⟨λa=>?_,λa=>?_⟩⟩
  .have:9223372036854775807<n:=by simp only[VA]at a;omega
   rw[V4 Bool.false_ne_true,V5 this];exact⟨rfl,rfl⟩
  .have:¬9223372036854775807<n:=by simp only[VD]at a;omega
   conv=>whnf
   rw[V4 Bool.false_ne_true,V4 this,aJ];exact⟨rfl,rfl⟩
 .refine⟨λ_=>⟨λa=>?_,λa=>?_⟩,λb=>by simp at b⟩
  .have:9223372036854775808<n:=by simp only[VA]at a;omega
   rw[V5 rfl,V5 this];exact⟨rfl,rfl⟩
  .have:¬9223372036854775808<n:=by simp only[VD]at a;omega
   rw[V5 rfl,V4 this];have e:i64.wrap (u64.wrap (0-(n:Int)))=-(n:Int):=by rw[df,jM];omega
   conv=>whnf
   rw[e];exact⟨rfl,rfl⟩
theorem PC{x y:Nat}(d:x<18446744073709551616)(b:y<18446744073709551616) :
  bV Tryz.prog 329 #[.int .u64 (x:Nat),.int .u64 (y:Nat)] H (.tuple #[.int .u64 ((x*y/18446744073709551616:Nat):Int),.int .u64 ((x*y%18446744073709551616:Nat):Int)]):=by
 refine Ov ?_;refine⟨by decide,by decide,by decide,by decide,by decide,?_⟩;have hm:=mul64_arith (x:Int) (y:Int) (by omega) (by omega) (by omega) (by omega);have key:∀a:Nat,u64.wrap (a:Int)=((a%18446744073709551616:Nat):Int):=u64m;have c:∀a:Nat,aY .and .u64 ((a%18446744073709551616:Nat):Int) 4294967295=((a%18446744073709551616%4294967296:Nat):Int):=λa=>tH (WB _ (by decide))
 rw[tH d,tH b];simp only[vX,mulNN,addNN,key,c,and_true];show Value.tuple #[.int .u64 _,.int .u64 _]=_;congr 4
theorem PD{s:Fa}{i:Nat}(h:i<s.size):bAt s i=((s[i]'h).toNat:Int):=by
 unfold bAt;rw[Array.getElem?_eq_getElem (show i<s.data.size from h)];rfl
theorem PE{n:Nat}(h:n<18446744073709551616):bitLen n<=64:=by
 unfold bitLen
 split
 .omega
 .rename_i h0;have:=(Nat.log2_lt h0).2 (show n<2^64 from h);omega
theorem Gw{x:Nat}(h:x<18446744073709551616):bV Tryz.prog 315 #[.int .u64 (x:Nat)] H (aB (bitLen x:Nat)):=by
 refine Ox ?_;have last:∀(y:Nat) (n:Nat),y<256->bitLen x=n+bitLen y->n<=64->mz.r1 (λu c=>u=aB (bitLen x:Nat)/\c=H) (y:Int) (n:Int) H:=by
  intro y n f hb k;unfold mz.r1;have m:u8.wrap (y:Int)=(y:Int):=u8w (by omega) (by omega);have s:=bitLen_le8 y f;rw[m];refine⟨⟨by omega,?_⟩,?_,rfl⟩
  .show (y:Int)<256;omega
  .rw [show bAt _ ((y:Int)).toNat=((bitLen y:Nat):Int) from (PD (i:=y) (by show y<256;omega)).trans (congrArg Nat.cast (len8tab_get y (by show y<256;omega)))];rw[aJ (x:=((bitLen y:Nat):Int)),aJ,hb];congr 1
 have s2:∀(y:Nat) (n:Nat),y<65536->bitLen x=n+bitLen y->n<=56->mz.r2 (λu c=>u=aB (bitLen x:Nat)/\c=H) (y:Int) (n:Int) H:=by
  intro y n f hb k;unfold mz.r2;refine λj b=>⟨λa=>⟨by decide,?_⟩,λa=>b _ _ _ (last y n (by simp only[VD]at a;omega) hb (by omega))⟩
  simp only[VA]at a;have e:Int.fdiv (y:Int) (2^(min (Int.toNat 8) (u64.bits)))=((y/256:Nat):Int):=rG y 8;have d:i64.wrap ((n:Int)+8)=((n+8:Nat):Int):=by rw[aJ];omega
  rw[e,d];refine b _ _ _ (last (y/256) (n+8) (by omega) ?_ (by omega));have:=bitLen_shift y 8 (by simp only[Nat.reducePow];omega);rw[hb,this];simp only[Nat.reducePow];omega
 have s3:∀(y:Nat) (n:Nat),y<4294967296->bitLen x=n+bitLen y->n<=32->mz.r3 (λu c=>u=aB (bitLen x:Nat)/\c=H) (y:Int) (n:Int) H:=by
  intro y n f hb k;unfold mz.r3;refine λj b=>⟨λa=>⟨by decide,?_⟩,λa=>b _ _ _ (s2 y n (by simp only[VD]at a;omega) hb (by omega))⟩
  simp only[VA]at a;have e:Int.fdiv (y:Int) (2^(min (Int.toNat 16) (u64.bits)))=((y/65536:Nat):Int):=rG y 16;have d:i64.wrap ((n:Int)+16)=((n+16:Nat):Int):=by rw[aJ];omega
  rw[e,d];refine b _ _ _ (s2 (y/65536) (n+16) (by omega) ?_ (by omega));have:=bitLen_shift y 16 (by simp only[Nat.reducePow];omega);rw[hb,this];simp only[Nat.reducePow];omega
 refine λj b=>⟨λa=>⟨by decide,?_⟩,λa=>b _ _ _ (s3 x 0 (by simp only[VD]at a;omega) (by omega) (by omega))⟩
 simp only[VA]at a;rw[vX];refine b _ _ _ (s3 (x/4294967296) 32 (by omega) ?_ (by omega));have:=bitLen_shift x 32 (by simp only[Nat.reducePow];omega);rw[this]
theorem PF{x:Nat}(h:x<18446744073709551616):bV Tryz.prog 364 #[.int .u64 (x:Nat)] H (aB ((64-bitLen x:Nat):Int)):=by
 refine Og ?_;have a:=PE h;refine⟨_,Gw h,?_,rfl⟩;rw[aJ];congr 1;omega
end
abbrev aD:=Value.int .i64
theorem mt98:lE Tryz.prog 123 3 43 dV Fy.z:=qn Tryz.underlying123 (by kernel_rfl)
theorem ko3:nB Tryz.prog 3 aD:=vP Tryz.underlying3
theorem rW:SlT Tryz.prog 43 5 1 1:=iu (by kernel_rfl)
theorem slb99:SlT Tryz.prog 120 122 2 16:=iu (by kernel_rfl)
theorem slb44:SlT Tryz.prog 377 3 1 8:=iu (by kernel_rfl)
structure DS where
 fb:Nat
 pa:KQ
 pc:Nat
 pend:List Pc
 m:YM
abbrev diskC(db:Nat)(s:DS):aE:=cellsA db [.map (some s.fb),.slice s.pa s.pend.length s.pc] 125
abbrev j5(s:DS):aE:=mapA aD dV s.fb s.m
abbrev jl(s:DS):aE:=slA 122 2 s.pa s.pend.length s.pc (flat lL s.pend)
def diskX(db:Nat)(rows:DR)(syn:Nat):aE:=exS λs:DS=>star [pur (DOk s.m s.pend rows syn),diskC db s,j5 s,rowsY s.m,jl s]
section
variable {db:Nat}{rows:DR}{syn:Nat}{F L:List aE}{H:aC}{K:KE}
theorem qx(h:aA H (diskX db rows syn::F)):∃s:DS,DOk s.m s.pend rows syn/\aA H (diskC db s::j5 s::rowsY s.m::jl s::F):=by
 obtain⟨s,h⟩:=cK.1 h;obtain⟨ok,h⟩:=aA.consP h.open;exact⟨s,ok,h⟩
theorem mF(s:DS)(ok:DOk s.m s.pend rows syn)(h:aA H (diskC db s::j5 s::rowsY s.m::jl s::F)):aA H (diskX db rows syn::F):=
 cK.2 ⟨s,aA.shut [_,_,_,_,_] (aA.pur h ok)⟩
theorem New_spec(h:aA H F)(k:∀db a,aA a (diskX db [] 0::F)->K (.pointer (some ⟨db,0,none⟩)) a):CF 30 #[] H K:=by
 refine cM 30 28 ?_;refine h.alm aD dV λfb _ h=>h.al λdb _ h=>k db _ ?_
 have h:=(h.sl_nil 122 2).o [1,2,0] 3;refine mF ⟨fb,none,0,[],[]⟩ DOk.new ?_;have b:aA _ (emp::diskC db ⟨fb,none,0,[],[]⟩::j5 ⟨fb,none,0,[],[]⟩::jl ⟨fb,none,0,[],[]⟩::F):=ww.2 h;exact b.o [1,2,0,3] 4
theorem PG(h:aA H (diskX db rows syn::F))(k:∀a,aA a (diskX db rows rows.length::F)->K (.tuple #[]) a):CF 92 #[.pointer (some ⟨db,0,none⟩)] H K:=by
 obtain⟨s,ok,h⟩:=qx h;refine cM 92 4 ?_;refine h.st 0 rfl rfl λ_ h=>k _ ?_
 have h:=(h.sl_nil 122 2).o [1,2,3,0] 5;exact mF ⟨s.fb,none,0,[],s.m⟩ ⟨ok.f,VF _,by simp[gL],λ_ b=>(by cases b),ok.keys⟩ h
theorem PI{f:Int}(u:rows.length<=1099511627776)(h:aA H (diskX db rows syn::F))
  (k1:bytesOf f rows=[]->∀b,aA b (diskX db rows syn::F)->K (.tuple #[.slice none 0 0,aD 23]) b)
  (k2:bytesOf f rows≠[]->∀a c b,aA b (slA 5 1 a (bytesOf f rows).length c ((bytesOf f rows).map U8)::diskX db rows syn::F)->K (.tuple #[.slice a (bytesOf f rows).length c,aD 0]) b) :
  CF 192 #[.pointer (some ⟨db,0,none⟩),aD f] H K:=by
 obtain⟨s,ok,h⟩:=qx h;refine cM 192 4572 ?_;have d:=h.mp_get mt98 ko3 1 rfl (x:=f);refine⟨_,h.r 0,?_⟩
 cases hm:aK f s.m with
 | none=>
  rw[hm]at d;refine⟨_,_,_,_,d,λ_=>?_,λi=>(by cases i)⟩
  exact k1 (ok.f.none.1 hm) _ (mF s ok h)
 | some y=>
  rw[hm]at d;obtain⟨e,j⟩:=ok.f.some hm;refine⟨_,_,_,_,d,λi=>(by cases i),λ_=>?_⟩
  have n:=(aA.rowsY_out ok.f.nd hm).1 (h.o [2,0,1,3] 4);refine zn n (λH h=>h.sl_rd 0 rfl) (by rw[Option.getD_some,e];have:=tX f rows;omega) λv w b t=>⟨_,_,_,rfl,?_⟩
  have k:=(aA.rowsY_out ok.f.nd hm).2 (t.o [1,2,3,4,5,0] 6);simp only[Option.getD_some]at k ⊢;rw[e]at k ⊢;exact k2 (by rw[<-e];exact j) _ _ _ ((mF (F:=_::F) s ok (k.o [1,2,0,3,4] 5)).o [1,0] 2)
theorem PJ{f:Int}(h:aA H (diskX db rows syn::F))
  (k1:bytesOf f rows=[]->∀a,aA a (diskX db rows syn::F)->K (aD 23) a)
  (k2:bytesOf f rows≠[]->syn<rows.length->∀a,aA a (diskX db rows syn::F)->K (aD 21) a)
  (k3:bytesOf f rows≠[]->¬syn<rows.length->∀a,aA a (diskX db (rows.filter λr=>decide (r.1≠f)) (rows.filter λr=>decide (r.1≠f)).length::F)->K (aD 0) a) :
  CF 189 #[.pointer (some ⟨db,0,none⟩),aD f] H K:=by
 obtain⟨s,ok,h⟩:=qx h;refine cM 189 18988316 ?_;have d:=h.mp_get mt98 ko3 1 rfl (x:=f);refine⟨_,h.r 0,?_⟩;have b:=ok.len
 cases hm:aK f s.m with
 | none=>
  rw[hm]at d;refine⟨_,_,_,_,d,λ_=>?_,λk=>(by cases k)⟩
  exact k1 (ok.f.none.1 hm) _ (mF s ok h)
 | some y=>
  rw[hm]at d;have c:bytesOf f rows≠[]:=λe=>by rw[ok.f.none.2 e]at hm;cases hm
  refine⟨_,_,_,_,d,λk=>(by cases k),λ_=>⟨_,_,_,h.r 0,λi=>?_,λi=>?_⟩⟩
  .refine k2 c ?_ _ (mF s ok h);have j:0<s.pend.length:=by have:=V8 i;omega
   have u:=zC ok.pos;rw[ok.p,VM,VU]at u;omega
  .have j:s.pend=[]:=by
    have:s.pend.length=0:=by have:=V9 i;omega
    exact WK.1 this
   have hs:¬syn<rows.length:=by
    rw[j]at b;simp only[cD,Yg,List.sum_nil]at b;omega
   refine⟨_,h.r 0,h.mp_delete mt98 ko3 1 rfl λa h=>k3 c hs _ ?_⟩
   have t:=((aA.rowsY_out ok.f.nd hm).1 (h.o [2,0,1,3] 4)).o [2,3,1,4] 5;refine mF ⟨s.fb,s.pa,s.pc,s.pend,bU f s.m⟩ ⟨ok.f.delete f,VF _,?_,ok.pos,λr n=>ok.keys r (W7.1 n).1⟩ t
   rw[j,W6];rfl
theorem Gx(v:rows.length<=1099511627776)(h:aA H (diskX db rows syn::F))(k:∀d,aA d (diskX db rows syn::F)->K (aD ((rows.length:Int)-syn)) d):CF 27 #[.pointer (some ⟨db,0,none⟩)] H K:=by
 obtain⟨s,ok,h⟩:=qx h;refine cN 27 0x1121561239925144c [[(3,sI),(11,sI)]] ?_;have b:=ok.len;have u:=ok.ple;have c:∀j,0<=cD (s.pend.take j)/\cD (s.pend.take j)<=cD s.pend:=by
  intro j;have e:cD s.pend=cD (s.pend.take j)+cD (s.pend.drop j):=by
   unfold cD;rw[<-List.sum_append,<-VW,Ww]
  have p1:=oZ (pend:=s.pend.take j) λq f=>ok.pos q (W0 f)
  have p2:=oZ (pend:=s.pend.drop j) λq f=>ok.pos q (WH f)
  omega
 refine⟨_,_,_,h.r 0,λsum t d=>∃j:Nat,t=j/\j<=s.pend.length/\sum=cD (s.pend.take j)/\aA d (diskC db s::j5 s::rowsY s.m::jl s::F),λ_ t _=>s.pend.length-t.toNat,
  ⟨0,rfl,Wd _,rfl,h⟩,?_⟩
 rintro sum t y ⟨j,rfl,w,rfl,h⟩;refine⟨λi=>?_,λi=>?_⟩
 .have a:j<s.pend.length:=by have:=V8 i;omega
  have n:=h.sl_rd 3 rfl;refine⟨⟨by omega,by omega⟩,_,_,n.some oq (by omega) a,_,_,n.els oq a,h.al λb1 _ h=>h.st 0 rfl rfl λ_ h=>⟨_,h.r 0,?_⟩⟩
  have e1:cD (s.pend.take (j+1))=cD (s.pend.take j)+s.pend[j].size:=by
   unfold cD;rw[Wn a,VW,List.sum_append];simp
  have:=c (j+1);have:=c j;have A:=ok.pos _ (VL a)
  conv=>whnf
  rw[aJ (x:=(j:Int)+1),aJ (x:=cD (s.pend.take j)+s.pend[j].size),<-e1];exact⟨⟨j+1,rfl,a,rfl,h.tl⟩,by simp only[VJ];omega⟩
 .obtain rfl:j=s.pend.length:=by have:=V9 i;omega
  rw[Wi,b];exact k _ (mF s ok h)
end
def jm(f:Int)(parts:List Fy):DR:=(parts.flatMap Fy.bs).map λb=>(f,b)
theorem Gy(f:Int)(a b:List Fy):jm f (a++b)=jm f a++jm f b:=by simp[jm]
theorem Gz(f:Int)(p:Fy):jm f [p]=p.bs.map λb=>(f,b):=by simp[jm]
theorem PK(f:Int)(bs:List Int):(bs.map λb=>(f,b)).map Prod.fst=List.replicate bs.length f:=by
 induction bs with
 | nil=>rfl
 | cons b r ih=>simp only[Wf,VE,YG,ih]
section
variable {db:Nat}{rows:DR}{syn:Nat}{F L:List aE}{H:aC}{K:KE}
theorem PM{s:DS}{f n:Int}(V:1<=n)(U:n<=1099511627776)(c:∀q∈s.pend,1<=q.size)(R:cD s.pend<=1099511627776)(T:s.pend.length<=1099511627776)(h:aA H (diskC db s::jl s::F))
  (k:∀(pa:KQ) (pc:Nat) (pend:List Pc) M,gL pend=gL s.pend++List.replicate n.toNat f->(∀q∈pend,1<=q.size)->
   aA M (diskC db ⟨s.fb,pa,pc,pend,s.m⟩::jl ⟨s.fb,pa,pc,pend,s.m⟩::F)->K (.tuple #[]) M) :
  CF 257 #[.pointer (some ⟨db,0,none⟩),aD f,aD n] H K:=by
 refine OE ?_;have push:∀H,aA H (diskC db s::jl s::F)->∀(b3:Nat) (H_1:aC),b3=H.size->H_1=H.push (.cells #[aD f,aD n] 122)->
   cB Tryz.prog (Builtin.append_ #[120,120] 120 #[.slice s.pa s.pend.length s.pc,.slice (some ⟨b3,0,none⟩) 1 1]) H_1 λu D=>
    ∃(N:KQ) (sn sc:Nat),u=.slice N sn sc/\eT D db (0+1) [.slice N sn sc]/\∀C:aC,C=fJ D db (0+1) [.slice N sn sc]->K (.tuple #[]) C:=by
  intro H h;refine h.al λb3 _ h=>?_
  refine aA.append (m:=1) (ws:=lL ⟨f,n⟩) slb99 h 2 rfl (h.ce_rd 0 rfl) rfl rfl (by omega) (by omega) λa2 c2 W h=>⟨_,_,_,rfl,?_⟩
  refine h.st 1 rfl rfl λS h=>k a2 c2 (s.pend++[⟨f,n⟩]) _ (by rw[tY,wx]) (λq b=>?_) ?_
  .rcases VV.1 b with b|b
   .exact c q b
   .rw [VI]at b;subst b;exact V
  .have B:aA S (cellsA db [.map (some s.fb),.slice a2 (s.pend.length+1) c2] 125::slA 122 2 a2 (s.pend.length+1) c2 (flat lL s.pend++lL ⟨f,n⟩)::F):=h.o [1,2] 3;rw[show flat lL s.pend++lL ⟨f,n⟩=flat lL (s.pend++[⟨f,n⟩]) by rw[dS,nA]]at B;simp only[diskC,jl,V7,Wv];exact B
 refine⟨_,_,_,h.r 0,λ_=>trivial,?_⟩
 rcases YC s.pend with i|⟨a,last,i⟩
 .have G:¬((0:Int)<(s.pend.length:Int)):=by rw[i];simp
  rw[Ws G];exact⟨none,0,0,λd=>(by cases d),λd=>(by cases d),0,0,λd=>(by cases d),0,λd=>(by cases d),λd=>(by simp at d),λ_=>⟨_,_,_,h.r 0,push H h⟩⟩
 .rw [YD]at i;have E:s.pend.length=a.length+1:=by rw[i];simp
  have e1:i64.wrap ((s.pend.length:Int)-1)=(a.length:Int):=by rw[aJ];omega
  rw[e1,VS (show (0:Int)<(s.pend.length:Int) by omega)];have L:=h.sl_rd 1 rfl;have j:a.length<s.pend.length:=by omega
  have J:s.pend[a.length]=last:=by simp[i]
  have w:=L.some oq (by omega) j;have t:=L.el0 oq j (v:=aD last.file) (by rw[J];rfl);have A:=L.el oq j 1 (v:=aD last.size) (by rw[J];rfl);have I:=c last (by rw[i];simp);have P:cD s.pend=cD a+last.size:=by rw[i];simp[cD]
  have Q:0<=cD a:=by rw[<-oZ λq b=>c q (by rw[i];exact WV _ b)];omega
  refine⟨_,_,_,λ_=>h.r 0,λ_=>⟨by omega,by omega⟩,_,_,λ_=>w,_,λ_=>t,λO=>?_,λO=>⟨_,_,_,h.r 0,push H h⟩⟩
  have d:last.file=f:=by simpa using O
  refine⟨_,_,_,h.rd 0 rfl _,⟨by omega,by omega⟩,_,_,w,_,A,⟨by omega,by omega⟩,_,_,w,?_⟩;rw[aJ (x:=last.size+n)];have e:=h.sl_set 1 rfl (a.length*2+1) [aD (last.size+n)] (by rw[fg oq];simp only[Wv];omega) (by simp);rw[<-Wy]at e;refine⟨e.2.1,?_⟩;rintro M rfl;have B:=e.2.2;rw[yG oq (y:=⟨f,last.size+n⟩) (vs:=[aD (last.size+n)]) (f:=1) j (by simp) (by rw[J,<-d];rfl)]at B;have e2:s.pend.set a.length ⟨f,last.size+n⟩=a++[⟨f,last.size+n⟩]:=by rw[i];simp
  rw[e2]at B;have e3:s.pend.length=(a++[(⟨f,last.size+n⟩:Pc)]).length:=by rw[E];simp
  refine k s.pa s.pc (a++[⟨f,last.size+n⟩]) _ ?_ (λq b=>?_) ?_
  .rw [tY,wx,i,tY,wx,VK,<-d,show (last.size+n).toNat=last.size.toNat+n.toNat by omega,<-List.replicate_append_replicate]
  .rcases VV.1 b with b|b
   .exact c q (by rw[i];exact WV _ b)
   .rw [VI]at b;subst b;simp only;omega
  .simp only[diskC,jl];rw[<-e3];exact B
theorem DOk.sizes_le{m:YM}{pend:List Pc}(ok:DOk m pend rows syn):cD pend<=rows.length:=by have:=ok.len;omega
theorem PN{f:Int}{pa:KQ}{pc:Nat}{parts:List Fy}(hB:rows.length+(parts.flatMap Fy.bs).length<=1099511627776)(hP:parts.length<=1099511627776)
  (W:∀c,aA c F->aP c pa (parts.map dV)/\∀p∈parts,aP c p.a (p.bs.map U8)) (h:aA H (diskX db rows syn::F))
  (k1:f<0\/2147483647<f->∀c,aA c (diskX db rows syn::F)->K (aD 11) c)
  (k2:¬(f<0\/2147483647<f)->∀c,aA c (diskX db (rows++jm f parts) syn::F)->K (aD 0) c) :
  CF 193 #[.pointer (some ⟨db,0,none⟩),aD f,.slice pa parts.length pc] H K:=by
 refine cN 193 0x1d215612399251171494c [[],[(17,sI)]] ?_;refine⟨λM=>k1 (by simpa using M) _ h,λM=>?_⟩
 have hf:¬(f<0\/2147483647<f):=by simpa[VP,not_or] using M
 refine⟨λt c=>∃j:Nat,t=j/\j<=parts.length/\aA c (diskX db (rows++jm f (parts.take j)) syn::F),λt _=>parts.length-t.toNat,⟨0,rfl,Wd _,by simpa[jm] using h⟩,?_⟩
 rintro t Z ⟨j,rfl,hj,h⟩;refine⟨λE=>?_,λE=>?_⟩
 .have A:j<parts.length:=by have:=V8 E;omega
  have C:=(W _ h.tl).1.at (j:=j) A;refine⟨⟨by omega,by omega⟩,_,_,C.1,_,_,_,C.2,?_⟩;intro Jn hJ;have R:parts.take (j+1)=parts.take j++[parts[j]]:=Wn A;have fin:∀c,aA c (diskX db (rows++jm f (parts.take (j+1))) syn::F)->Jn c:=by
   intro c O;refine hJ _ ?_
   conv=>whnf
   rw[aJ (x:=(j:Int)+1)];exact⟨⟨j+1,rfl,A,O⟩,by simp only[VJ];omega⟩
  have Q:=VL A;have T:=λc (O:aA c F)=>(W c O).2 _ Q
  have J:(parts.take (j+1)).flatMap Fy.bs=(parts.take j).flatMap Fy.bs++parts[j].bs:=by rw[R,W4,Wg,List.flatMap_nil,We]
  have G:((parts.take (j+1)).flatMap Fy.bs).length<=(parts.flatMap Fy.bs).length:=by
   have:parts.flatMap Fy.bs=(parts.take (j+1)).flatMap Fy.bs++(parts.drop (j+1)).flatMap Fy.bs:=by rw[<-W4,Ww]
   rw[this,V7];omega
  rw[J,V7]at G;have h0:(rows++jm f (parts.take j)).length=rows.length+((parts.take j).flatMap Fy.bs).length:=by simp[jm]
  generalize hrows:rows++jm f (parts.take j)=rows' at *;generalize parts[j]=p at *;refine⟨λu=>?_,λu=>?_⟩
  .have hb:p.bs≠[]:=λe=>by rw[e]at u;simp at u
   have h1:1<=p.bs.length:=Yy.2 hb;obtain⟨s,ok,h⟩:=qx h;have P:=h.mp_get1 mt98 ko3 1 rfl (x:=f);have i:=ok.f.get f;have V:=tX f rows';refine⟨_,h.r 0,_,h.r 0,_,_,_,P,?_⟩;have U:aA Z (rowY ((aK f s.m).getD Fy.z)::rowsY (bU f s.m)::diskC db s::j5 s::jl s::F):=by
    cases hm:aK f s.m with
    | none=>
     rw[kN hm];exact (h.sl_nil 5 1).o [0,3,1,2,4] 5
    | some y=>exact (aA.rowsY_out ok.f.nd hm).1 (h.o [2,0,1,3] 4)
   generalize hy:(aK f s.m).getD Fy.z=y at *;refine aA.append (m:=p.bs.length) (ws:=p.bs.map U8) rW U 0 rfl (T _ U.tl.tl.tl.tl.tl) (by simp) (nE (λ_=>rfl) _) (by rw[i];omega) (by rw[i];omega) λw B H3 h=>⟨_,_,_,rfl,h.r 2,?_⟩
   have Y:slA 5 1 w (y.bs.length+p.bs.length) B (y.bs.map U8++p.bs.map U8)=rowY ⟨w,B,y.bs++p.bs⟩:=by
    unfold rowY;simp[V7,VW]
   have h:aA H3 (rowY ⟨w,B,y.bs++p.bs⟩::rowsY (bU f s.m)::diskC db s::j5 s::jl s::F):=by rw[<-Y];exact h
   have ev:(Value.slice w (y.bs.length+p.bs.length) B)=dV ⟨w,B,y.bs++p.bs⟩:=by simp
   rw[ev];refine h.mp_update (α:=Fy) (v:=⟨w,B,y.bs++p.bs⟩) mt98 ko3 3 rfl λH4 h=>?_
   have h:=(aA.rowsY_in (m:=s.m) (k:=f)).2 (h.o [0,1,2,3,4] 5);have h3:=DOk.sizes_le ok;have h4:=ok.ple;refine PM (s:=s) (f:=f) (n:=p.bs.length) (F:=rowsY (mset f ⟨w,B,y.bs++p.bs⟩ s.m)::mapA aD dV s.fb (mset f ⟨w,B,y.bs++p.bs⟩ s.m)::F) (by omega) (by omega) ok.pos (by omega) (by omega) (h.o [1,3,0,2] 4)
    λL N D H5 S I h=>⟨rfl,fin _ ?_⟩
   have d:rows++jm f (parts.take (j+1))=rows'++p.bs.map λb=>(f,b):=by rw[R,Gy,Gz,<-VK,hrows]
   rw[d];refine mF ⟨s.fb,L,N,D,mset f ⟨w,B,y.bs++p.bs⟩ s.m⟩ ⟨ok.f.append hb (by simp only;rw[i]),by rw[V7];have:=ok.sle;omega,?_,I,λr C=>?_⟩ (h.o [0,3,2,1] 4)
   .rw [S,ok.p,List.drop_append_of_le_length ok.sle,VW,PK];simp
   .rcases VV.1 C with C|C
    .exact ok.keys r C
    .obtain⟨b,_,rfl⟩:=VH.1 C;simp only;omega
  .have hb:p.bs=[]:=by
    have:p.bs.length=0:=by have:=V9 u;omega
    exact WK.1 this
   refine fin _ ?_;have d:rows++jm f (parts.take (j+1))=rows':=by rw[R,Gy,Gz,<-VK,hrows,hb];simp
   rw[d];exact h
 .obtain rfl:j=parts.length:=by have:=V9 E;omega
  rw[Wi]at h;exact k2 hf _ h
theorem G0(L:rows.length<=1099511627776)(h:aA H (diskX db rows syn::F))
  (k:∀a c d,aA d (slA 3 1 a (bB rows).length c ((bB rows).map aD)::diskX db rows syn::F)->K (.slice a (bB rows).length c) d) :
  CF 188 #[.pointer (some ⟨db,0,none⟩)] H K:=by
 obtain⟨s,ok,h⟩:=qx h;refine cN 188 0x112156123995141c [[(3,sS)]] ?_;have G:=ok.f.le;refine⟨_,h.r 0,h.rg_new mt98 1 rfl λn I h=>⟨_,rfl,?_⟩⟩
 have h:=h.sl_nil 3 1;refine⟨λla w lc d=>∃dn:YM,w=dn.length/\aA d (slA 3 1 la dn.length lc ((aG dn).map aD)::diskC db s::kO aD dV n s.fb s.m dn::rowsY s.m::jl s::F),
  λ_ _ _ d=>s.m.length-oR d n,⟨[],rfl,h⟩,?_⟩
 rintro la w lc M ⟨dn,rfl,h⟩;obtain⟨y,B⟩:=h.rg_count 2 rfl;refine h.rg_next 2 rfl (λE=>Or.inl ⟨rfl,λj=>(by cases j),λ_=>?_⟩) λp C A J h=>Or.inr ⟨_,_,rfl,λ_=>?_,λj=>(by cases j)⟩
 .have h:=h.rg_map 2 rfl;have D:(aG dn).length=dn.length:=by simp[aG]
  rw[<-D]at h ⊢;refine P0 h 0 rfl (by omega) λx h=>⟨rfl,?_⟩
  have e1:sortI (aG dn)=bB rows:=by rw[<-ok.f.files];exact vQ (E.map _)
  have e2:(aG dn).length=(bB rows).length:=by rw[<-e1,vR]
  rw[e1]at h;rw[e2]at h ⊢;exact k la lc _ ((mF (F:=_::F) s ok (h.o [1,2,3,4,0] 5)).o [1,0] 2)
 .have i:=aA.rg_entry (P:=Tryz.prog) h 2 rfl;obtain⟨u,e⟩:=h.rg_count 2 rfl;rw[V7,Wv]at u e;refine⟨_,_,i,?_⟩;refine h.al λb _ h=>?_
  refine aA.append (m:=1) (ws:=[aD p.1]) slb44 h 1 rfl (h.ce_rd 0 rfl) rfl rfl (by omega) (by omega) λa2 c2 x h=>⟨_,_,_,rfl,?_⟩
  refine⟨⟨dn++[p],by simp,?_⟩,?_⟩
  .have v:aA x (slA 3 1 a2 (dn.length+1) c2 ((aG dn).map aD++[aD p.1])::diskC db s::kO aD dV n s.fb s.m (dn++[p])::rowsY s.m::jl s::F):=h.o [1,2,3,4,5] 6;rw[show (aG dn).map aD++[aD p.1]=(aG (dn++[p])).map aD by simp[aG]]at v;simpa only[V7,Wv] using v
  .obtain⟨t,_⟩:=h.rg_count 3 rfl;rw[V7,Wv]at t;simp only;omega
end
theorem PS{pend:List Pc}{j:Nat}(a:j<pend.length){k:Nat}(b:(gL (pend.take j)).length<=k)(c:k<(gL (pend.take j)).length+pend[j].size.toNat):(gL pend)[k]?=some pend[j].file:=by
 have e:gL pend=gL (pend.take j)++(List.replicate pend[j].size.toNat pend[j].file++gL (pend.drop (j+1))):=by
  rw[<-wx,<-tY,<-tY];congr 1;rw[List.singleton_append,<-Wx a,Ww]
 rw[e,List.getElem?_append_right b,List.getElem?_append_left (by rw[List.length_replicate];omega),List.getElem?_replicate,pO]
def eV(rows:DR)(syn:Nat)(keep:Int):DR:=rows.take (syn+(min (max keep 0) ((rows.length:Int)-syn)).toNat)
section
variable {db:Nat}{rows:DR}{syn:Nat}{F L:List aE}{H:aC}{K:KE}
theorem cut_spec{s:DS}{b t:DR}{f n:Int}(i:FOk s.m (b++t))(I:∀r∈t,r.1=f)(J:t≠[])(U:n=t.length)(S:(b++t).length<=1099511627776)(h:aA H (diskC db s::j5 s::rowsY s.m::F))
  (k:∀m' G,FOk m' b->aA G (diskC db { s with m:=m' }::j5 { s with m:=m' }::rowsY m'::F)->K (.tuple #[]) G) :
  CF 44 #[.pointer (some ⟨db,0,none⟩),aD f,aD n] H K:=by
 refine Pg ?_;have N:=h.mp_get1 mt98 ko3 1 rfl (x:=f);have hb:bytesOf f (b++t)=bytesOf f b++t.map Prod.snd:=by rw[qw,P8 I]
 have w:bytesOf f (b++t)≠[]:=by rw[hb];simp[J]
 cases hm:aK f s.m with
 | none=>exact V6 (i.none.1 hm) w
 | some y=>
  rw[hm]at N;obtain⟨A,O⟩:=i.some hm;rw[hb]at A;have d:y.bs.length=(bytesOf f b).length+t.length:=by rw[A];simp
  have C:=tX f (b++t);rw[hb,<-A]at C;refine⟨_,h.r 0,_,_,_,N,λE=>?_,λE=>?_⟩
  .have B:bytesOf f b=[]:=by
    have:n=(y.bs.length:Int):=V8 E;exact WK.1 (by omega)
   refine⟨_,h.r 0,h.mp_delete mt98 ko3 1 rfl λG h=>?_⟩
   have u:=((aA.rowsY_out i.nd hm).1 (h.o [2,0,1] 3)).o [2,3,1] 4;exact k _ _ ((i.cut I).1 B) u
  .have B:bytesOf f b≠[]:=λe=>by
    have:¬n=(y.bs.length:Int):=V9 E;rw[e]at d;simp at d;omega
   have P:=Yy.2 B;simp only[Option.getD_some];rw[aJ (x:=(y.bs.length:Int)-n)];have L:((y.bs.length:Int)-n).toNat=(bytesOf f b).length:=by omega
   rw[L];have u:=(aA.rowsY_out i.nd hm).1 (h.o [2,0,1] 3);have Q:=u.sl_nc 0 rfl;have M:=(u.sl_rd 0 rfl).at (j:=0) (by omega);rw[slB0 M.1];refine⟨_,h.rd 0 rfl _,⟨by omega,by omega,by omega⟩,?_⟩;have D:=u.sl_take 0 rfl (bytesOf f b).length (by omega);have e3:slA 5 1 y.a (bytesOf f b).length y.c ((y.bs.map U8).take ((bytesOf f b).length*1))=rowY ⟨y.a,y.c,bytesOf f b⟩:=by
    unfold rowY;rw[A,W2,VW];rw[show (bytesOf f b).length=((bytesOf f b).map U8).length by simp,List.take_left]
   have D:aA H (rowY ⟨y.a,y.c,bytesOf f b⟩::rowsY (bU f s.m)::diskC db s::j5 s::F):=by rw[<-e3];exact D
   refine D.mp_update (α:=Fy) (v:=⟨y.a,y.c,bytesOf f b⟩) mt98 ko3 3 rfl λT h=>?_
   have R:=((aA.rowsY_in (m:=s.m) (k:=f)).2 h).o [1,2,0] 3;exact k _ _ ((i.cut I).2 _ rfl B) R
theorem PT{a:KQ}{n c:Nat}(h:aA H F)(k:∀c0 d,aA d (cellsA c0 [.slice a n c] 120::F)->K (.func (.func 98) #[] #[.pointer (some ⟨c0,0,none⟩)]) d):CF 43 #[.slice a n c] H K:=by
 refine cM 43 28 ?_;exact h.al λb _ h=>k b _ h
theorem PU{l c0:Nat}{pa:KQ}{pc:Nat}{pend:List Pc}(B:pend.length<=1099511627776)(A:Nat->aE)(t:aE)
  (h:aA H (A pend.length::cellsA c0 [.slice pa pend.length pc] 120::slA 122 2 pa pend.length pc (flat lL pend)::F))
  (w:∀j (c:j<pend.length) (G:List aE) (d:aC) (e:KE),aA d (A (j+1)::G)->(∀b,aA b (A j::G)->e (.bool true) b)->(∀b,aA b (t::G)->e (.bool false) b)->
   fI Tryz.prog l [aD j,.agg #[aD pend[j].file,aD pend[j].size]] d e)
  (k:∀a,aA a (A 0::cellsA c0 [.slice pa pend.length pc] 120::slA 122 2 pa pend.length pc (flat lL pend)::F)->K (.tuple #[]) a)
  (u:∀a,aA a (t::cellsA c0 [.slice pa pend.length pc] 120::slA 122 2 pa pend.length pc (flat lL pend)::F)->K (.tuple #[]) a) :
  CF 98 #[.func (.yield l) #[] #[],.pointer (some ⟨c0,0,none⟩)] H K:=by
 refine cN 98 96300973186693524 [[(3,sI)]] ?_;have v:i64.wrap ((pend.length:Int)-1)=(pend.length:Int)-1:=aJ;refine⟨_,_,_,h.r 1,λi a=>∃j:Nat,i=(j:Int)-1/\j<=pend.length/\aA a (A j::cellsA c0 [.slice pa pend.length pc] 120::slA 122 2 pa pend.length pc (flat lL pend)::F),λi _=>(i+1).toNat,⟨pend.length,v,VF _,h⟩,?_⟩
 rintro i d ⟨j,rfl,c,h⟩;refine⟨λf=>?_,λf=>?_⟩
 .obtain⟨q,rfl⟩:∃q,j=q+1:=⟨j-1,by have:=V8 f;omega⟩;have eq:((q+1:Nat):Int)-1=(q:Int):=by omega
  rw[eq];have s:=h.sl_rd 2 rfl;refine⟨_,_,_,h.rd 1 rfl _,⟨by omega,by omega⟩,_,_,s.some oq (by omega) c,_,_,s.els oq c,?_⟩;refine w q c _ d _ h (λy n=>⟨true,rfl,λm=>(by cases m),λ_=>?_⟩) λy n=>⟨false,rfl,λ_=>u _ n,λm=>(by cases m)⟩
  conv=>whnf
  rw[aJ (x:=(q:Int)-1)];exact⟨⟨q,rfl,by omega,n⟩,by simp only;omega⟩
 .obtain rfl:j=0:=by have:=V9 f;omega
  exact k _ h
def crA(db b b1 l:Nat)(R:Loop)(s:DS)(rows:DR)(lost:Int)(j:Nat):aE:=
 exS λm:YM=>star [pur (FOk m (rows.take (rows.length-(min (max lost 0) (cD (s.pend.drop j))).toNat))),diskC db { s with m:=m },j5 { s with m:=m },rowsY m,cellsA b [.pointer (some ⟨db,0,none⟩)] 30,cellsA b1 [aD (lost-cD (s.pend.drop j))] 3,pt l (.loop R)]
def crX(db b l:Nat)(R:Loop)(s:DS)(rows:DR)(lost:Int):aE:=
 exS λm:YM=>star [pur (FOk m (rows.take (rows.length-(max lost 0).toNat))),diskC db { s with m:=m },j5 { s with m:=m },rowsY m,cellsA b [.pointer (some ⟨db,0,none⟩)] 30,pt l (.loop { R with state:=.done,pending:=some (.exit 0) })]
theorem G1{pend:List Pc}(a:∀q∈pend,1<=q.size)(j:Nat):0<=cD (pend.drop j)/\cD (pend.drop j)+cD (pend.take j)=cD pend/\0<=cD (pend.take j):=by
 have e:cD pend=cD (pend.take j)+cD (pend.drop j):=by
  unfold cD;rw[<-List.sum_append,<-VW,Ww]
 have p1:=oZ (pend:=pend.take j) λq b=>a q (W0 b)
 have p2:=oZ (pend:=pend.drop j) λq b=>a q (WH b)
 omega
theorem PW{s:DS}{b b1 j:Nat}{a:Int}{u y:aC}{R:Loop}{G:List aE}{v:KE}(ok:DOk s.m s.pend rows syn)(hB:rows.length<=1099511627776)(V:-9223372036854775808+1099511627776<=a+1099511627776)(K:a<=(rows.length:Int)-syn)(E:j<s.pend.length)
  (h:aA y (crA db b b1 (u.size+1) R s rows a (j+1)::G)) (Y:∀n,aA n (crA db b b1 (u.size+1) R s rows a j::G)->v (.bool true) n) (T:∀n,aA n (crX db b (u.size+1) R s rows a::G)->v (.bool false) n) :
  zl.y1 b b1 u R [aD j,.agg #[aD s.pend[j].file,aD s.pend[j].size]] y v:=by
 obtain⟨m,h⟩:=cK.1 h;obtain⟨t,h⟩:=aA.consP h.open;have h:aA y (diskC db { s with m:=m }::j5 { s with m:=m }::rowsY m::cellsA b [.pointer (some ⟨db,0,none⟩)] 30::cellsA b1 [aD (a-cD (s.pend.drop (j+1)))] 3::pt (u.size+1) (.loop R)::G):=h;have I:=ok.len;have F:=ok.sle;obtain⟨p1,p2,p3⟩:=G1 ok.pos (j+1);have L:s.pend.drop j=s.pend[j]::s.pend.drop (j+1):=Wx E;have es:cD (s.pend.drop j)=s.pend[j].size+cD (s.pend.drop (j+1)):=by rw[L];unfold cD;rw[Wf,Yb]
 obtain⟨q1,q2,q3⟩:=G1 ok.pos j;have P:=ok.pos _ (VL E);have W:=oZ (pend:=s.pend.take j) λq U=>ok.pos q (W0 U)
 unfold zl.y1;refine⟨_,_,_,rfl,h.getO 5 rfl,?_⟩;refine h.al λb2 _ h=>h.st 0 rfl rfl λ_ h=>⟨h.getO 6 rfl,h.stl 6 rfl λH6 h=>⟨_,h.r 5,λw=>?_,λw=>?_⟩⟩
 .have Q:a-cD (s.pend.drop (j+1))<=0:=V8 w;refine⟨h.getO 6 rfl,T _ ?_⟩;have h:=h.setO 6 rfl (.loop { R with state:=.done,pending:=some (.exit 0) });rw[show min (max a 0) (cD (s.pend.drop (j+1)))=max a 0 by omega]at t;exact cK.2 ⟨m,aA.shut [_,_,_,_,_,_] (aA.pur (h.o [1,2,3,4,6] 7) t)⟩
 .have O:¬a-cD (s.pend.drop (j+1))<=0:=V9 w;refine⟨_,h.r 4,_,h.r 0,_,h.r 0,_,h.r 5,?_⟩;generalize hcv:(if a-cD (s.pend.drop (j+1))<s.pend[j].size then a-cD (s.pend.drop (j+1)) else s.pend[j].size)=c
  have Z:1<=c/\c<=s.pend[j].size/\c=min (s.pend[j].size) (a-cD (s.pend.drop (j+1))):=by rw[<-hcv];split <;> omega
  have e1:(min (max a 0) (cD (s.pend.drop (j+1)))).toNat=(cD (s.pend.drop (j+1))).toNat:=by congr 1;omega
  rw[e1]at t;generalize hD:(cD (s.pend.drop (j+1))).toNat=D at *;have J:cD (s.pend.drop (j+1))=D:=by omega
  have k:(rows.take (rows.length-D)).length=rows.length-D:=by rw[VY];omega
  have d:rows.take (rows.length-D)=rows.take (rows.length-D-c.toNat)++(rows.take (rows.length-D)).drop (rows.length-D-c.toNat):=by
   conv=>lhs;rw[<-Ww (rows.length-D-c.toNat) (rows.take (rows.length-D))]
   rw[List.take_take,WX (by omega)]
  have f:((rows.take (rows.length-D)).drop (rows.length-D-c.toNat)).length=c.toNat:=by rw[VU,k];omega
  have C:∀r∈(rows.take (rows.length-D)).drop (rows.length-D-c.toNat),r.1=s.pend[j].file:=by
   intro r S;obtain⟨i,hi⟩:=List.getElem?_of_mem S;have M:i<c.toNat:=by have:=(List.getElem?_eq_some_iff.1 hi).1;rw[f]at this;exact this
   rw[List.getElem?_drop,List.getElem?_take_of_lt (by omega)]at hi;have H:((rows.drop syn).map Prod.fst)[rows.length-D-c.toNat+i-syn]?=some r.1:=by
    rw[List.getElem?_map,List.getElem?_drop,show syn+(rows.length-D-c.toNat+i-syn)=rows.length-D-c.toNat+i by omega,hi];rfl
   rw[<-ok.p,PS E (by omega) (by omega)]at H;exact (Option.some.inj H).symm
  have A:(rows.take (rows.length-D)).drop (rows.length-D-c.toNat)≠[]:=λe=>by rw[e]at f;simp at f;omega
  have B:(rows.take (rows.length-D-c.toNat)++(rows.take (rows.length-D)).drop (rows.length-D-c.toNat)).length<=1099511627776:=by rw[<-d,k];omega
  rw[d]at t;refine cut_spec (s:={ s with m:=m }) t C A (by rw[f];omega) B (h.o [1,2,3,0,4,5,6] 7) λm' H7 x h=>⟨rfl,_,h.r 5,_,h.r 3,?_⟩
  have N:a-cD (s.pend.drop (j+1))-s.pend[j].size=a-cD (s.pend.drop j):=by omega
  conv=>whnf
  rw[N,aJ];refine h.st 5 rfl rfl λH8 h=>⟨h.getO 6 rfl,Y _ ?_⟩
  have h:=h.setO 6 rfl (.loop R);refine cK.2 ⟨m',aA.shut [_,_,_,_,_,_,_] (aA.pur (h.o [0,1,2,4,5,6] 7) ?_)⟩;have e2:rows.length-(min (max a 0) (cD (s.pend.drop j))).toNat=rows.length-D-c.toNat:=by omega
  rw[e2];exact x
theorem G2{keep:Int}(N:aF keep)(A:rows.length<=1099511627776)(h:aA H (diskX db rows syn::F))
  (k:∀e,aA e (diskX db (eV rows syn keep) (eV rows syn keep).length::F)->K (.tuple #[]) e):CF 15 #[.pointer (some ⟨db,0,none⟩),aD keep] H K:=by
 refine Pj ?_;unfold aF at N;refine h.al λb _ h=>⟨_,h.r 0,?_⟩
 refine Gx (F:=cellsA b [.pointer (some ⟨db,0,none⟩)] 30::F) A (h.o [1,0] 2) λC h=>⟨_,rfl,?_⟩
 have t:(if 0>keep then 0 else keep)=max keep 0:=by split <;> omega
 obtain⟨s,ok,h⟩:=qx h;have y:=ok.sle;have B:=ok.len;have E:=ok.ple
 conv=>whnf
 rw[t,aJ (x:=(rows.length:Int)-syn-max keep 0)];generalize hlost:(rows.length:Int)-syn-max keep 0=lost;have i:rows.take (rows.length-(max lost 0).toNat)=eV rows syn keep:=by unfold eV;congr 1;omega
 refine h.al λb1 _ h=>h.st 0 rfl rfl λ_ h=>⟨_,h.r 5,cZ ⟨_,_,_,h.r 1,?_⟩⟩
 refine PT h λc0 c h=>⟨_,_,rfl,rfl,λR n u D=>?_⟩
 have h:=h.rng R;have h0:aA ((c.push (.deferred (some []))).push (.loop R)) (crA db b b1 (c.size+1) R s rows lost s.pend.length::cellsA c0 [.slice s.pa s.pend.length s.pc] 120::jl s::pt c.size (.deferred (some []))::F):=by
  refine cK.2 ⟨s.m,aA.shut [_,_,_,_,_,_,_] (aA.pur ?_ ?_)⟩
  .rw [W6,show cD []=0 from rfl,Int.sub_zero];exact h.o [4,5,6,8,3,0,2,7,1] 9
  .rw [W6,show cD []=0 from rfl,show (min (max lost 0) 0).toNat=0 by omega,Nat.sub_zero,Wi];exact ok.f
 have a:∀(m:YM) e,FOk m (eV rows syn keep)->aA e (cellsA db [.map (some s.fb),.slice none 0 0] 125::j5 { s with m:=m }::rowsY m::F)->aA e (diskX db (eV rows syn keep) (eV rows syn keep).length::F):=by
  intro m e d w;have w:=(w.sl_nil 122 2).o [1,2,3,0] 4;exact mF ⟨s.fb,none,0,[],m⟩ ⟨d,VF _,by simp[gL],λ_ M=>(by cases M),λr I=>ok.keys r (W0 I)⟩ w
 refine PU (by omega) (λj=>crA db b b1 (c.size+1) R s rows lost j) (crX db b (c.size+1) R s rows lost) h0 (λj O G C S P Q L=>D _ _ _ (PW ok A (by omega) (by omega) O P Q L)) (λv h=>?_) λv h=>?_
 .obtain⟨m,h⟩:=cK.1 h;obtain⟨d,h⟩:=aA.consP h.open;have h:aA v (diskC db { s with m:=m }::j5 { s with m:=m }::rowsY m::cellsA b [.pointer (some ⟨db,0,none⟩)] 30::cellsA b1 [aD (lost-cD (s.pend.drop 0))] 3::pt (c.size+1) (.loop R)::cellsA c0 [.slice s.pa s.pend.length s.pc] 120::jl s::pt c.size (.deferred (some []))::F):=h;have e0:min (max lost 0) (cD (s.pend.drop 0))=max lost 0:=by rw[List.drop_zero];omega
  rw[e0,i]at d;refine⟨.ready,none,by decide,by rw[nD n u];exact h.getO 5 rfl,h.stl 5 rfl λJ h=>Or.inl ⟨rfl,_,h.r 3,cZ (h.st 0 rfl rfl λ_ h=>⟨h.getO 8 rfl,?_⟩)⟩⟩
  have h:=h.setO 8 rfl (.deferred none);exact k _ (a m _ d (h.o [0,1,2] 9))
 .obtain⟨m,h⟩:=cK.1 h;obtain⟨d,h⟩:=aA.consP h.open;have h:aA v (diskC db { s with m:=m }::j5 { s with m:=m }::rowsY m::cellsA b [.pointer (some ⟨db,0,none⟩)] 30::pt (c.size+1) (.loop { R with state:=.done,pending:=some (.exit 0) })::cellsA c0 [.slice s.pa s.pend.length s.pc] 120::jl s::pt c.size (.deferred (some []))::F):=h;rw[i]at d;refine⟨.done,some (.exit 0),by decide,h.getO 4 rfl,h.stl 4 rfl λJ h=>Or.inr ⟨rfl,_,h.r 3,cZ (h.st 0 rfl rfl λ_ h=>⟨h.getO 7 rfl,?_⟩)⟩⟩
  have h:=h.setO 7 rfl (.deferred none);exact k _ (a m _ d (h.o [0,1,2] 8))
end
theorem G3(rows:DR):(bB rows).length<=rows.length:=by
 unfold bB;rw[vR];have:∀l:List Int,(oo l).length<=l.length:=by
  intro l
  induction l with
  | nil=>exact VF _
  | cons a r ih=>
   unfold oo
   split
   .simp only[VE];omega
   .simp only[VE];omega
 have:=this (rows.map Prod.fst);simpa using this
structure CD where
 what:Int
 file:Int
 keep:Int
 a:KQ
 c:Nat
 bs:List Int
theorem PX(rows:DR)(syn:Nat)(keep:Int):(eV rows syn keep).length<=rows.length:=by unfold eV;rw[VY];omega
theorem rX{n:Nat}(h:n<4294967296):(BitVec.ofInt u32.bits (n:Int)).toNat=n:=by
 rw[YE,YF];exact WJ h
theorem xor32{n m:Nat}(a:n<4294967296)(hm:m<4294967296):aY .xor .u32 (n:Int) (m:Int)=((n^^^m:Nat):Int):=by
 unfold aY;rw[BitVec.toNat_xor,rX a,rX hm];have:n^^^m<2^32:=Nat.xor_lt_two_pow a hm;exact u32w (by omega) (by omega)
theorem and32{n m:Nat}(a:n<4294967296)(hm:m<4294967296):aY .and .u32 (n:Int) (m:Int)=((n &&& m:Nat):Int):=by
 unfold aY;rw[BitVec.toNat_and,rX a,rX hm];have:n &&& m<2^32:=Nat.and_lt_two_pow n hm;exact u32w (by omega) (by omega)
def stepC(n:Nat):Nat:=if n%2=1 then (n/2)^^^3988292384 else n/2
theorem stepC_lt{n:Nat}(h:n<4294967296):stepC n<4294967296:=by
 unfold stepC
 split
 .have:(n/2)^^^3988292384<2^32:=Nat.xor_lt_two_pow (by omega) (by decide);omega
 .omega
def wB:Nat->Nat->Nat
 | 0,n=>n
 | k+1,n=>stepC (wB k n)
theorem zD{n:Nat}(h:n<4294967296):∀k,wB k n<4294967296
 | 0=>h
 | k+1=>stepC_lt (zD h k)
def u32n(v:Int):Nat:=(u32.wrap v).toNat
theorem wC(v:Int):(u32n v:Int)=u32.wrap v/\u32n v<4294967296:=by
 unfold u32n;simp only[IntKind.wrap,IntKind.bits,IntKind.signed]
 first|omega|(simp;omega)
def byteC(n:Nat)(v:Int):Nat:=wB 8 (n^^^u32n v)
theorem zE{n m:Nat}(a:n<4294967296)(hm:m<4294967296):n^^^m<4294967296:=by
 have:n^^^m<2^32:=Nat.xor_lt_two_pow a hm;omega
theorem byteC_lt{n:Nat}{v:Int}(h:n<4294967296):byteC n v<4294967296:=zD (zE h (wC v).2) 8
def jT(n:Nat)(l:List Int):Nat:=l.foldl byteC n
theorem tZ:∀{l:List Int} {n:Nat},n<4294967296->jT n l<4294967296
 | [],n,h=>h
 | v::r,n,h=>tZ (l:=r) (byteC_lt h)
def kR(l:List Int):Int:=((4294967295^^^jT 4294967295 l:Nat):Int)
theorem zG(l:List Int):0<=kR l/\kR l<4294967296:=by
 have:=zE (n:=4294967295) (by decide) (tZ (l:=l) (n:=4294967295) (by decide));unfold kR;omega
theorem crc_end(l:List Int):aY .xor .u32 u32.max (jT 4294967295 l:Int)=kR l:=by
 rw[show u32.max=((4294967295:Nat):Int) from rfl,xor32 (by decide) (tZ (by decide))];rfl
theorem crc_byte{n:Nat}(h:n<4294967296)(v:Int):aY .xor .u32 (n:Int) (u32.wrap v)=((n^^^u32n v:Nat):Int):=by
 rw[<-(wC v).1,xor32 h (wC v).2]
theorem G4(n:Nat)(l r:List Int):jT n (l++r)=jT (jT n l) r:=WR ..
theorem PY{l:List Int}{n i:Nat}(h:i<l.length):jT n (l.take (i+1))=byteC (jT n (l.take i)) l[i]:=by
 rw[<-List.take_append_getElem h,G4];rfl
theorem PZ{n:Nat}(h:n<4294967296) :
  aY .xor .u32 (Int.fdiv (n:Int) (2^(min (Int.toNat 1) (u32.bits)))) (aY .and .u32 (u32.wrap (0-(aY .and .u32 (n:Int) 1))) 3988292384)=(stepC n:Int):=by
 have e1:Int.fdiv (n:Int) (2^(min (Int.toNat 1) (u32.bits)))=((n/2:Nat):Int):=by
  show Int.fdiv (n:Int) 2=_;rw[WY _ (by decide)];omega
 have e2:aY .and .u32 (n:Int) 1=((n%2:Nat):Int):=by
  rw[show (1:Int)=((1:Nat):Int) from rfl,and32 h (by decide),Nat.and_one_is_mod]
 rw[e1,e2];unfold stepC
 rcases Nat.mod_two_eq_zero_or_one n with h0|h0
 .rw [h0,V4 (by decide)];have:aY .and .u32 (u32.wrap (0-((0:Nat):Int))) 3988292384=((0:Nat):Int):=by decide
  rw[this,xor32 (by omega) (by decide),Nat.xor_zero]
 .rw [h0,V5 rfl];have:aY .and .u32 (u32.wrap (0-((1:Nat):Int))) 3988292384=((3988292384:Nat):Int):=by decide
  rw[this,xor32 (by omega) (by decide)]
theorem zH{parts:List Fy}{j:Nat}(h:j<parts.length):(parts.take (j+1)).flatMap Fy.bs=(parts.take j).flatMap Fy.bs++parts[j].bs:=by
 rw[Wn h,W4];simp
theorem zI{H:aC}{a:KQ}{c:Nat}{parts:List Fy}(J:aP H a (parts.map dV))(K:∀y∈parts,aP H y.a (y.bs.map U8))(M:parts.length<=1099511627776)
  (G:∀y∈parts,y.bs.length<=1099511627776):bV Tryz.prog 165 #[.slice a parts.length c] H (.int .u32 (kR (parts.flatMap Fy.bs))):=by
 unfold bV;refine cN 165 0x11215612399251156123992511156123992514444c [[(3,.one (.int .u32)),(25,sI)],[(3,.one (.int .u32)),(17,sI)],[(3,.one (.int .u32)),(11,sI)]] ?_;refine⟨λs i u=>u=H/\∃j:Nat,i=j/\j<=parts.length/\s=(jT 4294967295 ((parts.take j).flatMap Fy.bs):Nat),λ_ i _=>parts.length-i.toNat,⟨rfl,0,rfl,Wd _,rfl⟩,?_⟩
 rintro s i u ⟨rfl,j,rfl,N,rfl⟩;refine⟨λd=>?_,λd=>?_⟩
 .have b:j<parts.length:=by simpa using d
  have w:=J.at b;have B:=K _ (VL b);have v:=G _ (VL b);have F:i64.wrap ((j:Int)+1)=((j+1:Nat):Int):=aJ;have A:=zH b;obtain⟨y,D⟩:∃y,parts[j]=y:=⟨_,rfl⟩;rw[D]at w B v A;refine⟨⟨by omega,by omega⟩,_,_,w.1,_,_,_,w.2,?_⟩;refine⟨λs i t=>t=u/\∃k:Nat,i=k/\k<=y.bs.length/\s=(jT (jT 4294967295 ((parts.take j).flatMap Fy.bs)) (y.bs.take k):Nat),λ_ i _=>y.bs.length-i.toNat,⟨rfl,0,rfl,Wd _,rfl⟩,?_⟩
  rintro s1 i1 E ⟨rfl,k,rfl,L,rfl⟩;have C:jT (jT 4294967295 ((parts.take j).flatMap Fy.bs)) (y.bs.take k)<4294967296:=tZ (tZ (by decide));refine⟨λd=>?_,λd=>?_⟩
  .have h:k<y.bs.length:=by simpa using d
   have x:=B.at h;have I:=zE C (wC y.bs[k]).2;refine⟨⟨by omega,by omega⟩,_,_,x.1,_,x.2,?_⟩
   conv=>whnf
   rw[crc_byte C];refine⟨λs i t=>t=E/\∃m:Nat,i=m/\m<=8/\s=(wB m (jT (jT 4294967295 ((parts.take j).flatMap Fy.bs)) (y.bs.take k)^^^u32n y.bs[k]):Nat),λ_ i _=>8-i.toNat,⟨rfl,0,rfl,Wd _,rfl⟩,?_⟩
   rintro s1 i1 t ⟨rfl,m,rfl,hm,rfl⟩;have hs:=zD I m;refine⟨λf=>?_,λf=>?_⟩
   .have n:m<8:=by simp at f;omega
    have e1:i64.wrap ((m:Int)+1)=((m+1:Nat):Int):=aJ;refine⟨by decide,?_⟩
    conv=>whnf
    rw[PZ hs,e1];exact⟨⟨rfl,m+1,rfl,by omega,rfl⟩,by dsimp only;omega⟩
   .have n:m=8:=by simp at f;omega
    subst n;have e1:i64.wrap ((k:Int)+1)=((k+1:Nat):Int):=aJ
    conv=>whnf
    rw[e1];refine⟨⟨rfl,k+1,rfl,by omega,?_⟩,by dsimp only;omega⟩;rw[PY h];rfl
  .have e:k=y.bs.length:=by simp at d;omega
   subst e
   conv=>whnf
   rw[F];refine⟨⟨rfl,j+1,rfl,by omega,?_⟩,by dsimp only;omega⟩;rw[A,G4,Wi]
 .have e:j=parts.length:=by simp at d;omega
  subst e;rw[Wi];exact⟨congrArg (Value.int .u32) (crc_end _),rfl⟩
end Go.Proofs.YtaaieblnikcndaaGreatDoor
