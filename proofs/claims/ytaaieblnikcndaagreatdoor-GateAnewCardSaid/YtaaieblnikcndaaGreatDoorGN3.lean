/-
  Lemmas for GateAnew: part 3 of what it rests on. Conditions: none.
-/
import Derived.Test.YtaaieblnikcndaaGreatDoorGN2
set_option linter.unusedVariables false
set_option linter.unusedSimpArgs false
set_option maxRecDepth 100000
set_option maxHeartbeats 16000000
open Go.IntKind (i64 u64 i8 u8 i32 u32 i16 u16)
namespace Go.Proofs.YtaaieblnikcndaaGreatDoor
open Go
def rQ.code(c0b c0o c1b c1o:Nat)(rv:Value)(H:aD)(K:aD->Prop):Prop:=
 ∃eq:Bool,gZ Tryz.prog .eql 20 rv .nilIface eq/\
 ∀Jn:fF,(∀H_,(K H_)->Jn H_)->
 IF eq (
 Jn H) (
 ∃a,∃there:Bool,md Tryz.prog (Instr.typeAssert rv 20 335 true) (mp (.agg #[(aB a)]) there)/\
 ∀Jn1:fF,(∀H_1,(Jn H_1)->Jn1 H_1)->
 IF there (
 AL H [(aB 0)] 335 λb H_2=>
 ST H_2 b 0 [(aB a)] λH_3=>
 aO H_3 b 0 λv=>
 ST H_3 c0b c0o ze λH_4=>
 aL H_4 b 0=some (aB v)/\
 ST H_4 c1b c1o [(aB v)] λH_5=>
 Jn1 H_5) (
 ST H c0b c0o ze λH_6=>
 ST H_6 c1b c1o [(aB 10)] λH_7=>
 Jn1 H_7))
theorem rQ.defq{a b d c e H K:_}{u f:FrameMode}(j:(u=.returning/\e=.nilIface/\f=.returning)\/(u=bi e false/\f=bi e true))(k:rQ.code a b d c e H K):cC Tryz.prog 167 (dt a b d c) u H λh i=>h=f/\K i:=
 y9 (X:=X) (an:=(.seq .reg (.blk (.seq .reg (.condJ [] .reg (.seq .reg (.condJ [] (.seq .reg .reg) (.seq .reg .reg)))))))) X_P rH rI Tryz.func167 j (by kernel_rfl) k
section
variable {a b c d e f g i j k a0 a1 a2 a3 a4 a5 a6 a7 a8 a9 b0 b1 b2 b3 b4 b5 b6 b7 b8 b9 c0 c1 c2 c3 c4 c5 c6 c7 c8 c9 d0 d1 d2 d3 d4 d5 d6 d7 d8 d9 e0 e1 e2 e3 e4 e5 e6 e7 e8 e9 f0 f1 f2 f3 f4 f5 f6 f7 f8 f9 g0 g1 g2 g3 g4 g5 g6 g7 g8 g9 i0 i1 i2 i3 i4 i5 i6 i7 i9 k0 k1 k2 k3 k4 k5 k6 k7 k8 k9 m0 m1 m2 m3 m4 m5 m6 m7 m8 m9 n0:Int}{l m n o p q r n1 n2 n3 n4 n5 n6 n7 n8 n9 o0 o1 o2 o3 o4 o5 o6 o7 o8 o9 p0 p1 p2 p3 p4 p5 p6 p7 p8 p9 q0 q1 q2 q3 q4 q5 q6 q7 q8 q9 s0 s1 s2 s3 s4 s5 s6 s7 s8 s9 t0 t1 t2 t3 t4 t5 t6 t7 t8 t9 u0:Nat}{s t u v u1 u2 u3 u4 u5 u6 u7 u9 v0 v1 v2 v3 v4 v5 v6 v7 v8 v9 w0 w1 w2 w3 w4 w5 w6 w7 w8 w9 x0 x1:KQ}{w x x2 x3 x4 x5 x6 x7 x8 x9 z0 z1 z2 z3 z4 z5 z6:Fa}{y z7 z8 z9 aa ab ac ad ae af ag ai aj ak al am:Bool}{z an ao ap aq ar au av aw:Nat->Int}{az ah ba bb bc bd be bf:Value}{bj bk bl bm bn bo bp bq:Os}{bt bu bv bw bx bz:FuncId}{cb cc cd ce cf cg ci cj ck cl cm cn:Option Nat}{H:aD}{K KP:KE}
theorem Pe(h :
 AL H ze 81 λa c3=>
 AL c3 [aB 0] 50 λb c4=>
 C_p 168 [.slice s l m] c4 λc c5=>
 P_i 169 [.pointer c] c5 (λr1 c6=>
 ST c6 a 0 [aB r1] λc7=>
 C_l 170 [PA a 0] c7 λc8 w k0 c9=>
 ∃(v:fm) (c2:iR),v 0 c9/\
 ∀e d,v e d->
 ID (e<w) (
 IA e w c8 λd0 d1=>
 bC d d0 (d1+e.toNat) λf=>
 C_u 171 [.pointer c] d λr2 d2=>
 NN f (
 ST d2 (aU f) (aS f) [aB (i64.wrap r2)] λx=>
 Q_i 173 [.pointer c] x λr3=>
 mr 172 [aB r3] x (λy=>
 v (i64.wrap (e+1)) y/\c2 (i64.wrap (e+1)) y<c2 e d) (λz d3=>
 bJ 167 X.calls=true/\
 cC Tryz.prog 167 (dt a 0 b 0) (bi z false) d3 λd4 g=>d4=bi z true/\
 mt g a 0 λd5=>
 aO g b 0 λd6=>
 K (eA (.agg ⟨d5⟩) d6) g))) (
 aO d a 0 λa0=>
 ∀t:fF,(∀a9,(C_i 177 [.pointer c] a9 λr4 d7=>
 mr 172 [aB r4] d7 (λa1=>
 mt a1 a 0 λd8=>
 C_b 137 [.agg ⟨d8⟩] a1 λr5 a2=>
 ∀c1:fF,(∀r,(mt r a 0 λd9=>
 ST r a 0 d9 λe0=>
 ST e0 b 0 [aB 0] λe1=>
 bJ 167 X.calls=true/\
 cC Tryz.prog 167 (dt a 0 b 0) .returning e1 λe2 i=>e2=.returning/\
 mt i a 0 λe3=>
 aO i b 0 λe4=>
 K (eA (.agg ⟨e3⟩) e4) i)->c1 r)->
 IF (!r5) (
 bJ 167 X.calls=true/\
 cC Tryz.prog 167 (dt a 0 b 0) (bi (.iface 335 (.agg #[aB 10])) false) a2 λe5 j=>e5=bi (.iface 335 (.agg #[aB 10])) true/\
 mt j a 0 λe6=>
 aO j b 0 λe7=>
 K (eA (.agg ⟨e6⟩) e7) j) (
 c1 a2)) (λa3 e8=>
 bJ 167 X.calls=true/\
 cC Tryz.prog 167 (dt a 0 b 0) (bi a3 false) e8 λe9 k=>e9=bi a3 true/\
 mt k a 0 λf0=>
 aO k b 0 λf1=>
 K (eA (.agg ⟨f0⟩) f1) k))->t a9)->
 ID (a0=5) (
 CP 174 ⟨[.pointer c]⟩ d (λf2 f3=>∃b0 b1 b2,f2=(.slice b0 b1 b2)/\
 ST f3 a 10 [.slice b0 b1 b2] λf4=>
 t f4) (λa4 f5=>
 bJ 167 X.calls=true/\
 cC Tryz.prog 167 (dt a 0 b 0) (bi a4 false) f5 λf6 n=>f6=bi a4 true/\
 mt n a 0 λf7=>
 aO n b 0 λf8=>
 K (eA (.agg ⟨f7⟩) f8) n)) (
 ∀u:fF,(∀b3,(t b3)->u b3)->
 ID (a0=8) (
 CP 175 ⟨[.pointer c]⟩ d (λf9 g0=>∃b4 b5 b6 b7,f9=(A_sl b4 b5 b6 b7)/\
 ST g0 a 11 (L_sl b4 b5 b6 b7) λg1=>
 CF 176 ⟨(kC c 4096)⟩ g1 λg2 g3=>∃r6,g2=(.string r6)/\
 cB Tryz.prog (convert 9 43 (.string r6)) g3 λg4 g5=>
 ∃b8 b9 c0,g4=(.slice b8 b9 c0)/\
 ST g5 a 13 [.slice b8 b9 c0] λa5=>
 Q_i 173 [.pointer c] a5 λr7=>
 mr 172 [aB r7] a5 (λg6=>
 u g6) (λa6 g7=>
 bJ 167 X.calls=true/\
 cC Tryz.prog 167 (dt a 0 b 0) (bi a6 false) g7 λg8 o=>g8=bi a6 true/\
 mt o a 0 λg9=>
 aO o b 0 λi0=>
 K (eA (.agg ⟨g9⟩) i0) o)) (λa7 i1=>
 bJ 167 X.calls=true/\
 cC Tryz.prog 167 (dt a 0 b 0) (bi a7 false) i1 λi2 p=>i2=bi a7 true/\
 mt p a 0 λi3=>
 aO p b 0 λi4=>
 K (eA (.agg ⟨i3⟩) i4) p)) (
 u d)))) (λa8 i5=>
 bJ 167 X.calls=true/\
 cC Tryz.prog 167 (dt a 0 b 0) (bi a8 false) i5 λi6 q=>i6=bi a8 true/\
 mt q a 0 λi7=>
 aO q b 0 λi9=>
 K (eA (.agg ⟨i7⟩) i9) q)):CF 80 ⟨[.slice s l m]⟩ H K:=cE 0x2424242422456242399252424442245247424724244924224749249 [[],[],[],[(16, sI)]] h
end
section
variable {a b c d e f g i j k a0 a1 a2 a3 a4 a5 a6 a7 a8 a9 b0 b1 b2 b3 b4 b5 b6 b7 b8 b9 c0 c1 c2 c3 c4 c5 c6 c7 c8 c9 d0 d1 d2 d3 d4 d5 d6 d7 d8 d9 e0 e1 e2 e3 e4 e5 e6 e7 e8 e9 f0 f1 f2 f3 f4 f5 f6 f7 f8 f9 g0 g1 g2 g3 g4 g5 g6 g7 g8 g9 i0 i1 i2 i3 i4 i5 i6 i7 i9 k0 k1 k2 k3 k4 k5 k6 k7 k8 k9 m0 m1 m2 m3 m4 m5 m6 m7 m8 m9 n0:Int}{l m n o p q r n1 n2 n3 n4 n5 n6 n7 n8 n9 o0 o1 o2 o3 o4 o5 o6 o7 o8 o9 p0 p1 p2 p3 p4 p5 p6 p7 p8 p9 q0 q1 q2 q3 q4 q5 q6 q7 q8 q9 s0 s1 s2 s3 s4 s5 s6 s7 s8 s9 t0 t1 t2 t3 t4 t5 t6 t7 t8 t9 u0:Nat}{s t u v u1 u2 u3 u4 u5 u6 u7 u9 v0 v1 v2 v3 v4 v5 v6 v7 v8 v9 w0 w1 w2 w3 w4 w5 w6 w7 w8 w9 x0 x1:KQ}{w x x2 x3 x4 x5 x6 x7 x8 x9 z0 z1 z2 z3 z4 z5 z6:Fa}{y z7 z8 z9 aa ab ac ad ae af ag ai aj ak al am:Bool}{z an ao ap aq ar au av aw:Nat->Int}{az ah ba bb bc bd be bf:Value}{bj bk bl bm bn bo bp bq:Os}{bt bu bv bw bx bz:FuncId}{cb cc cd ce cf cg ci cj ck cl cm cn:Option Nat}{H:aD}{K KP:KE}
theorem Pf(h :
 AL H (L_i13 a b c d e f g i j k a0 a1 a2) 25 λp c9=>
 C_b 7 [] c9 λd0 u=>
 IF (!d0) (
 K (.bool false) u) (
 tN u p 0 λd1=>
 C_b 8 (L_vl (.agg ⟨d1⟩) s l m) u λr1 v=>
 IF r1 (
 K (.bool true) v) (
 tN v p 0 λd2=>
 C_Tpp_ 9 [.agg ⟨d2⟩] v λr2 r3 w=>
 IF (r2.isNone||r3.isNone) (
 tN w p 0 λd3=>
 C_Wi13_ 10 [.agg ⟨d3⟩] w λd4 d5=>
 C_b 11 [.agg ⟨d4⟩] d5 λd6 d7=>
 K (.bool (!d6)) d7) (
 NM w λd8 d9=>
 NM d9 λe0 e1=>
 AL e1 (L_M2 d8 e0) 67 λr e2=>
 ∃(a8:fm) (c8:iR),a8 0 e2/\
 ∀n o,a8 n o->
 ID (n<l) (
 ∀a3:fF,(∀x,(a8 (i64.wrap (n+1)) x/\c8 (i64.wrap (n+1)) x<c8 n o)->a3 x)->
 IA n l s λe3 e4=>
 aO o e3 (e4+n.toNat*6) λe5=>
 IN (e5=3) (
 IA n l s λe6 e7=>
 rd_Wi5l_ o e6 (e7+n.toNat*6) λe8=>
 C_b 14 (L_pv r2 (.agg ⟨e8⟩)) o λm5 e9=>
 a3 e9) (
 C_l 13 [.pointer r2] o λf0 f1 f2 f3=>
 C_b 24 (L_al r 0 f0 f1 f2) f3 λf4 a9=>
 IF (!f4) (
 K (.bool false) a9) (
 a3 a9))) (
 C_l 13 [.pointer r2] o λf5 f6 f7 f8=>
 C_b 24 (L_al r 0 f5 f6 f7) f8 λf9 b0=>
 IF (!f9) (
 K (.bool false) b0) (
 C_p 12 [.pointer r2] b0 λq g0=>
 C_T_ 15 (kC r3 0) g0 λb1=>
 tN b1 p 0 λg1=>
 zd 16 (L_pv r3 (.agg ⟨g1⟩)) b1 λb2 g2 g3 g4 g5 b3=>
 ∀a4:tI,(∀c3 t,(IF c3 (
 K (.bool false) t) (
 tN t p 0 λg6=>
 zd 16 (L_pv r3 (.agg ⟨g6⟩)) t λb4 g7 g8 g9 i0 b5=>
 ∀a5:tI,(∀c4 y,(IF c4 (
 K (.bool false) y) (
 C_p 12 [.pointer b2] y λb6 i1=>
 C_p 12 [.pointer b4] i1 λb7 b8=>
 IF (b6.isNone||b7.isNone) (
 K (.bool false) b8) (
 rL 19 (L_pv q (A_i11n 1 0 0 0 0 0 0 0 0 0 0)) b8 λm6 m7 m8 i2 b9=>
 ∀a6:tI,(∀c5 z,(IF c5 (
 K (.bool false) z) (
 rL 19 (L_pv q (A_i11n 1 0 0 0 0 0 0 0 0 0 0)) z λm9 n0 n1 i3 c0=>
 ∀a7:tI,(∀c6 c7,(K (.bool c6) c7)->a7 c6 c7)->
 JF ((decide (i3=0))=true) (
 C_l 17 [.pointer q] c0 λi4 i5 i6 i7=>
 C_l 17 [.pointer b7] i7 λi9 k0 k1 c1=>
 Q_b 20 (fG i4 i5 i6 i9 k0 k1) c1 λk2=>
 a7 k2 c1) (
 a7 false c0)))->a6 c5 z)->
 JF ((!decide (i2=0))=false) (
 C_l 17 [.pointer q] b9 λk3 k4 k5 k6=>
 C_l 17 [.pointer b6] k6 λk7 k8 k9 c2=>
 Q_b 20 (fG k3 k4 k5 k7 k8 k9) c2 λm0=>
 a6 (!m0) c2) (
 a6 true b9))))->a5 c4 y)->
 JF (((!decide (i0=0))||b4.isNone)=false) (
 C_b 24 (L_al r 0 g7 g8 g9) b5 λm1 m2=>
 a5 (!m1) m2) (
 a5 true b5)))->a4 c3 t)->
 JF (((q.isNone||(!decide (g5=0)))||b2.isNone)=false) (
 C_b 24 (L_al r 0 g2 g3 g4) b3 λm3 m4=>
 a4 (!m3) m4) (
 a4 true b3))))))):CF 6 ⟨(L_vl (A_i13 a b c d e f g i j k a0 a1 a2) s l m)⟩ H K:=cE 0x1dd1d12156213992adb4d1112283c912283c911d12283c91289 [[(4,sB)],[(143,sB)],[(117,sB)],[(98,sB)],[],[(8,sI)]] h
end
open Go.Shelf
def Tryz.keysA_ren:Go.Shelf.Ren:=⟨fun|7=>117|10=>215|n=>n,fun|23=>256|26=>2|3=>149|28=>262|0=>0|27=>261|33=>329|4=>4|n=>n,fun|n=>n⟩
theorem Tryz.keysA:Go.Proofs.SlLaysZI.n7 Tryz.prog Tryz.keysA_ren:={
 mixed:=by kernel_rfl
 f7:=⟨Tryz.f117.name,by decide,zt Tryz.func117⟩
 f10:=⟨Tryz.f215.name,by decide,zt Tryz.func215⟩
 t0:=Tryz.underlying0
 a0:=Tryz.isAgg0
 z0:=Tryz.sizeOf0
 v0:=Tryz.zeroValue0
 t4:=Tryz.underlying4
 a4:=Tryz.isAgg4
 z4:=Tryz.sizeOf4
 v4:=Tryz.zeroValue4
 t23:=Tryz.underlying256
 a23:=Tryz.isAgg256
 z23:=Tryz.sizeOf256
 v23:=Tryz.zeroValue256
 t26:=Tryz.underlying2
 a26:=Tryz.isAgg2
 z26:=Tryz.sizeOf2
 v26:=Tryz.zeroValue2
 t27:=Tryz.underlying261
 a27:=Tryz.isAgg261
 z27:=Tryz.sizeOf261
 v27:=Tryz.zeroValue261
 t28:=Tryz.underlying262
 a28:=Tryz.isAgg262
 z28:=Tryz.sizeOf262
 v28:=Tryz.zeroValue262
 t33:=Tryz.underlying329
 a33:=Tryz.isAgg329
 z33:=Tryz.sizeOf329
 v33:=Tryz.zeroValue329 }
def Tryz.keysA2_ren:Go.Shelf.Ren:=⟨fun|7=>216|10=>270|n=>n,fun|23=>291|26=>2|3=>99|28=>262|0=>0|27=>261|33=>329|4=>4|n=>n,fun|n=>n⟩
theorem Tryz.keysA2:Go.Proofs.SlLaysZI.n7 Tryz.prog Tryz.keysA2_ren:={
 mixed:=by kernel_rfl
 f7:=⟨Tryz.f216.name,by decide,zt Tryz.func216⟩
 f10:=⟨Tryz.f270.name,by decide,zt Tryz.func270⟩
 t0:=Tryz.underlying0
 a0:=Tryz.isAgg0
 z0:=Tryz.sizeOf0
 v0:=Tryz.zeroValue0
 t4:=Tryz.underlying4
 a4:=Tryz.isAgg4
 z4:=Tryz.sizeOf4
 v4:=Tryz.zeroValue4
 t23:=Tryz.underlying291
 a23:=Tryz.isAgg291
 z23:=Tryz.sizeOf291
 v23:=Tryz.zeroValue291
 t26:=Tryz.underlying2
 a26:=Tryz.isAgg2
 z26:=Tryz.sizeOf2
 v26:=Tryz.zeroValue2
 t27:=Tryz.underlying261
 a27:=Tryz.isAgg261
 z27:=Tryz.sizeOf261
 v27:=Tryz.zeroValue261
 t28:=Tryz.underlying262
 a28:=Tryz.isAgg262
 z28:=Tryz.sizeOf262
 v28:=Tryz.zeroValue262
 t33:=Tryz.underlying329
 a33:=Tryz.isAgg329
 z33:=Tryz.sizeOf329
 v33:=Tryz.zeroValue329 }
def Tryz.keysA3_ren:Go.Shelf.Ren:=⟨fun|7=>296|10=>338|n=>n,fun|23=>250|26=>2|3=>185|28=>262|0=>0|27=>261|33=>329|4=>4|n=>n,fun|n=>n⟩
theorem Tryz.keysA3:Go.Proofs.SlLaysZI.n7 Tryz.prog Tryz.keysA3_ren:={
 mixed:=by kernel_rfl
 f7:=⟨Tryz.f296.name,by decide,zt Tryz.func296⟩
 f10:=⟨Tryz.f338.name,by decide,zt Tryz.func338⟩
 t0:=Tryz.underlying0
 a0:=Tryz.isAgg0
 z0:=Tryz.sizeOf0
 v0:=Tryz.zeroValue0
 t4:=Tryz.underlying4
 a4:=Tryz.isAgg4
 z4:=Tryz.sizeOf4
 v4:=Tryz.zeroValue4
 t23:=Tryz.underlying250
 a23:=Tryz.isAgg250
 z23:=Tryz.sizeOf250
 v23:=Tryz.zeroValue250
 t26:=Tryz.underlying2
 a26:=Tryz.isAgg2
 z26:=Tryz.sizeOf2
 v26:=Tryz.zeroValue2
 t27:=Tryz.underlying261
 a27:=Tryz.isAgg261
 z27:=Tryz.sizeOf261
 v27:=Tryz.zeroValue261
 t28:=Tryz.underlying262
 a28:=Tryz.isAgg262
 z28:=Tryz.sizeOf262
 v28:=Tryz.zeroValue262
 t33:=Tryz.underlying329
 a33:=Tryz.isAgg329
 z33:=Tryz.sizeOf329
 v33:=Tryz.zeroValue329 }
def Tryz.sortedA_ren:Go.Shelf.Ren:=⟨fun|6=>116|8=>213|9=>214|11=>267|13=>269|12=>268|23=>314|24=>315|14=>305|15=>306|16=>307|17=>308|18=>309|19=>310|20=>311|21=>312|22=>313|25=>353|26=>354|27=>355|28=>356|29=>357|30=>273|31=>376|n=>n,fun|26=>2|28=>262|24=>248|0=>0|3=>3|37=>332|48=>331|50=>155|4=>4|40=>494|39=>493|45=>498|5=>5|9=>9|51=>537|55=>540|57=>548|58=>549|33=>329|n=>n,fun|n=>n⟩
theorem Tryz.sortedA:Go.Proofs.SlLaysZI.n6 Tryz.prog Tryz.sortedA_ren:={
 mixed:=by kernel_rfl
 f6:=⟨Tryz.f116.name,by decide,zt Tryz.func116⟩
 f8:=⟨Tryz.f213.name,by decide,zt Tryz.func213⟩
 f11:=⟨Tryz.f267.name,by decide,zt Tryz.func267⟩
 t0:=Tryz.underlying0
 a0:=Tryz.isAgg0
 z0:=Tryz.sizeOf0
 v0:=Tryz.zeroValue0
 t24:=Tryz.underlying248
 a24:=Tryz.isAgg248
 z24:=Tryz.sizeOf248
 v24:=Tryz.zeroValue248
 t26:=Tryz.underlying2
 a26:=Tryz.isAgg2
 z26:=Tryz.sizeOf2
 v26:=Tryz.zeroValue2
 t28:=Tryz.underlying262
 a28:=Tryz.isAgg262
 z28:=Tryz.sizeOf262
 v28:=Tryz.zeroValue262
 i26:=by kernel_rfl }
def Tryz.sortA_ren:Go.Shelf.Ren:=⟨fun|5=>214|8=>269|7=>268|19=>314|20=>315|10=>305|11=>306|12=>307|13=>308|14=>309|15=>310|16=>311|17=>312|18=>313|30=>353|31=>354|32=>355|33=>356|34=>357|35=>273|40=>376|n=>n,fun|23=>248|25=>2|3=>3|32=>332|22=>248|0=>0|44=>331|46=>155|4=>4|36=>494|35=>493|41=>498|5=>5|9=>9|53=>537|57=>540|63=>548|64=>549|n=>n,fun|n=>n⟩
theorem Tryz.sortA:Go.Proofs.SlLaysM.n5 Tryz.prog Tryz.sortA_ren:={
 mixed:=by kernel_rfl
 f5:=⟨Tryz.f214.name,by decide,zt Tryz.func214⟩
 f7:=⟨Tryz.f268.name,by decide,zt Tryz.func268⟩
 f8:=zt Tryz.func269
 f10:=⟨Tryz.f305.name,by decide,zt Tryz.func305⟩
 f11:=⟨Tryz.f306.name,by decide,zt Tryz.func306⟩
 f12:=⟨Tryz.f307.name,by decide,zt Tryz.func307⟩
 f13:=⟨Tryz.f308.name,by decide,zt Tryz.func308⟩
 f14:=⟨Tryz.f309.name,by decide,zt Tryz.func309⟩
 f15:=⟨Tryz.f310.name,by decide,zt Tryz.func310⟩
 f16:=⟨Tryz.f311.name,by decide,zt Tryz.func311⟩
 f17:=⟨Tryz.f312.name,by decide,zt Tryz.func312⟩
 f18:=⟨Tryz.f313.name,by decide,zt Tryz.func313⟩
 f19:=zt Tryz.func314
 f20:=zt Tryz.func315
 f30:=⟨Tryz.f353.name,by decide,zt Tryz.func353⟩
 f31:=zt Tryz.func354
 f32:=zt Tryz.func355
 f33:=⟨Tryz.f356.name,by decide,zt Tryz.func356⟩
 f34:=⟨Tryz.f357.name,by decide,zt Tryz.func357⟩
 f35:=⟨Tryz.f273.name,by decide,zt Tryz.func273⟩
 f40:=⟨Tryz.f376.name,by decide,zt Tryz.func376⟩
 t0:=Tryz.underlying0
 a0:=Tryz.isAgg0
 z0:=Tryz.sizeOf0
 v0:=Tryz.zeroValue0
 t3:=Tryz.underlying3
 a3:=Tryz.isAgg3
 z3:=Tryz.sizeOf3
 v3:=Tryz.zeroValue3
 t4:=Tryz.underlying4
 a4:=Tryz.isAgg4
 z4:=Tryz.sizeOf4
 v4:=Tryz.zeroValue4
 t5:=Tryz.underlying5
 a5:=Tryz.isAgg5
 z5:=Tryz.sizeOf5
 v5:=Tryz.zeroValue5
 t9:=Tryz.underlying9
 a9:=Tryz.isAgg9
 z9:=Tryz.sizeOf9
 v9:=Tryz.zeroValue9
 t22:=Tryz.underlying248
 a22:=Tryz.isAgg248
 z22:=Tryz.sizeOf248
 v22:=Tryz.zeroValue248
 t23:=Tryz.underlying248
 a23:=Tryz.isAgg248
 z23:=Tryz.sizeOf248
 v23:=Tryz.zeroValue248
 t25:=Tryz.underlying2
 a25:=Tryz.isAgg2
 z25:=Tryz.sizeOf2
 v25:=Tryz.zeroValue2
 t32:=Tryz.underlying332
 a32:=Tryz.isAgg332
 z32:=Tryz.sizeOf332
 v32:=Tryz.zeroValue332
 t35:=Tryz.underlying493
 a35:=Tryz.isAgg493
 z35:=Tryz.sizeOf493
 v35:=Tryz.zeroValue493
 t36:=Tryz.underlying494
 a36:=Tryz.isAgg494
 z36:=Tryz.sizeOf494
 v36:=Tryz.zeroValue494
 t41:=Tryz.underlying498
 a41:=Tryz.isAgg498
 z41:=Tryz.sizeOf498
 v41:=Tryz.zeroValue498
 t44:=Tryz.underlying331
 a44:=Tryz.isAgg331
 z44:=Tryz.sizeOf331
 v44:=Tryz.zeroValue331
 t46:=Tryz.underlying155
 a46:=Tryz.isAgg155
 z46:=Tryz.sizeOf155
 v46:=Tryz.zeroValue155
 t53:=Tryz.underlying537
 a53:=Tryz.isAgg537
 z53:=Tryz.sizeOf537
 v53:=Tryz.zeroValue537
 t57:=Tryz.underlying540
 a57:=Tryz.isAgg540
 z57:=Tryz.sizeOf540
 v57:=Tryz.zeroValue540
 t63:=Tryz.underlying548
 a63:=Tryz.isAgg548
 z63:=Tryz.sizeOf548
 v63:=Tryz.zeroValue548
 t64:=Tryz.underlying549
 a64:=Tryz.isAgg549
 z64:=Tryz.sizeOf549
 v64:=Tryz.zeroValue549 }
def Tryz.cloneA_ren:Go.Shelf.Ren:=⟨fun|5=>115|7=>212|n=>n,fun|23=>256|25=>2|3=>149|4=>4|20=>20|n=>n,fun|n=>n⟩
theorem Tryz.cloneA:Go.Proofs.SlLaysW.n5 Tryz.prog Tryz.cloneA_ren:={
 mixed:=by kernel_rfl
 f5:=⟨Tryz.f115.name,by decide,zt Tryz.func115⟩
 f7:=zt Tryz.func212
 t4:=Tryz.underlying4
 a4:=Tryz.isAgg4
 z4:=Tryz.sizeOf4
 v4:=Tryz.zeroValue4
 t20:=Tryz.underlying20
 a20:=Tryz.isAgg20
 z20:=Tryz.sizeOf20
 v20:=Tryz.zeroValue20
 t23:=Tryz.underlying256
 a23:=Tryz.isAgg256
 z23:=Tryz.sizeOf256
 v23:=Tryz.zeroValue256 }
def Tryz.cloneA2_ren:Go.Shelf.Ren:=⟨fun|5=>133|7=>212|n=>n,fun|23=>250|25=>2|3=>185|4=>4|20=>20|n=>n,fun|n=>n⟩
theorem Tryz.cloneA2:Go.Proofs.SlLaysW.n5 Tryz.prog Tryz.cloneA2_ren:={
 mixed:=by kernel_rfl
 f5:=⟨Tryz.f133.name,by decide,zt Tryz.func133⟩
 f7:=zt Tryz.func212
 t4:=Tryz.underlying4
 a4:=Tryz.isAgg4
 z4:=Tryz.sizeOf4
 v4:=Tryz.zeroValue4
 t20:=Tryz.underlying20
 a20:=Tryz.isAgg20
 z20:=Tryz.sizeOf20
 v20:=Tryz.zeroValue20
 t23:=Tryz.underlying250
 a23:=Tryz.isAgg250
 z23:=Tryz.sizeOf250
 v23:=Tryz.zeroValue250 }
def Tryz.cloneA3_ren:Go.Shelf.Ren:=⟨fun|5=>135|7=>212|n=>n,fun|23=>291|25=>2|3=>99|4=>4|20=>20|n=>n,fun|n=>n⟩
theorem Tryz.cloneA3:Go.Proofs.SlLaysW.n5 Tryz.prog Tryz.cloneA3_ren:={
 mixed:=by kernel_rfl
 f5:=⟨Tryz.f135.name,by decide,zt Tryz.func135⟩
 f7:=zt Tryz.func212
 t4:=Tryz.underlying4
 a4:=Tryz.isAgg4
 z4:=Tryz.sizeOf4
 v4:=Tryz.zeroValue4
 t20:=Tryz.underlying20
 a20:=Tryz.isAgg20
 z20:=Tryz.sizeOf20
 v20:=Tryz.zeroValue20
 t23:=Tryz.underlying291
 a23:=Tryz.isAgg291
 z23:=Tryz.sizeOf291
 v23:=Tryz.zeroValue291 }
def Tryz.joinB_ren:Go.Shelf.Ren:=⟨fun|14=>255|15=>298|n=>n,fun|26=>224|22=>43|3=>3|4=>4|0=>0|9=>9|20=>20|5=>5|n=>n,fun|n=>n⟩
theorem Tryz.joinB:Go.Proofs.SlLaysJ.n14 Tryz.prog Tryz.joinB_ren:={
 mixed:=by kernel_rfl
 f14:=zt Tryz.func255
 f15:=zt Tryz.func298
 t0:=Tryz.underlying0
 a0:=Tryz.isAgg0
 z0:=Tryz.sizeOf0
 v0:=Tryz.zeroValue0
 t3:=Tryz.underlying3
 a3:=Tryz.isAgg3
 z3:=Tryz.sizeOf3
 v3:=Tryz.zeroValue3
 t4:=Tryz.underlying4
 a4:=Tryz.isAgg4
 z4:=Tryz.sizeOf4
 v4:=Tryz.zeroValue4
 t9:=Tryz.underlying9
 a9:=Tryz.isAgg9
 z9:=Tryz.sizeOf9
 v9:=Tryz.zeroValue9
 t20:=Tryz.underlying20
 a20:=Tryz.isAgg20
 z20:=Tryz.sizeOf20
 v20:=Tryz.zeroValue20
 t22:=Tryz.underlying43
 a22:=Tryz.isAgg43
 z22:=Tryz.sizeOf43
 v22:=Tryz.zeroValue43
 t26:=Tryz.underlying224
 a26:=Tryz.isAgg224
 z26:=Tryz.sizeOf224
 v26:=Tryz.zeroValue224
 t5:=Tryz.underlying5
 z5:=Tryz.sizeOf5
 i5:=by kernel_rfl }
open Go.Shelf
def Tryz.sortI_ren:Go.Shelf.Ren:=⟨fun|5=>256|8=>269|7=>299|19=>314|20=>315|10=>339|11=>340|12=>341|13=>342|14=>343|15=>344|16=>345|17=>346|18=>347|30=>368|31=>354|32=>355|33=>369|34=>370|35=>371|40=>380|n=>n,fun|23=>377|25=>3|3=>3|32=>332|22=>377|0=>0|44=>331|46=>155|4=>4|36=>494|35=>493|41=>498|5=>5|9=>9|53=>537|57=>540|63=>548|64=>549|n=>n,fun|n=>n⟩
theorem Tryz.sortI:Go.Proofs.SlLaysM.n5 Tryz.prog Tryz.sortI_ren:={
 mixed:=by kernel_rfl
 f5:=⟨Tryz.f256.name,by decide,zt Tryz.func256⟩
 f7:=⟨Tryz.f299.name,by decide,zt Tryz.func299⟩
 f8:=zt Tryz.func269
 f10:=⟨Tryz.f339.name,by decide,zt Tryz.func339⟩
 f11:=⟨Tryz.f340.name,by decide,zt Tryz.func340⟩
 f12:=⟨Tryz.f341.name,by decide,zt Tryz.func341⟩
 f13:=⟨Tryz.f342.name,by decide,zt Tryz.func342⟩
 f14:=⟨Tryz.f343.name,by decide,zt Tryz.func343⟩
 f15:=⟨Tryz.f344.name,by decide,zt Tryz.func344⟩
 f16:=⟨Tryz.f345.name,by decide,zt Tryz.func345⟩
 f17:=⟨Tryz.f346.name,by decide,zt Tryz.func346⟩
 f18:=⟨Tryz.f347.name,by decide,zt Tryz.func347⟩
 f19:=zt Tryz.func314
 f20:=zt Tryz.func315
 f30:=⟨Tryz.f368.name,by decide,zt Tryz.func368⟩
 f31:=zt Tryz.func354
 f32:=zt Tryz.func355
 f33:=⟨Tryz.f369.name,by decide,zt Tryz.func369⟩
 f34:=⟨Tryz.f370.name,by decide,zt Tryz.func370⟩
 f35:=⟨Tryz.f371.name,by decide,zt Tryz.func371⟩
 f40:=⟨Tryz.f380.name,by decide,zt Tryz.func380⟩
 t0:=Tryz.underlying0
 a0:=Tryz.isAgg0
 z0:=Tryz.sizeOf0
 v0:=Tryz.zeroValue0
 t3:=Tryz.underlying3
 a3:=Tryz.isAgg3
 z3:=Tryz.sizeOf3
 v3:=Tryz.zeroValue3
 t4:=Tryz.underlying4
 a4:=Tryz.isAgg4
 z4:=Tryz.sizeOf4
 v4:=Tryz.zeroValue4
 t5:=Tryz.underlying5
 a5:=Tryz.isAgg5
 z5:=Tryz.sizeOf5
 v5:=Tryz.zeroValue5
 t9:=Tryz.underlying9
 a9:=Tryz.isAgg9
 z9:=Tryz.sizeOf9
 v9:=Tryz.zeroValue9
 t22:=Tryz.underlying377
 a22:=Tryz.isAgg377
 z22:=Tryz.sizeOf377
 v22:=Tryz.zeroValue377
 t23:=Tryz.underlying377
 a23:=Tryz.isAgg377
 z23:=Tryz.sizeOf377
 v23:=Tryz.zeroValue377
 t25:=Tryz.underlying3
 a25:=Tryz.isAgg3
 z25:=Tryz.sizeOf3
 v25:=Tryz.zeroValue3
 t32:=Tryz.underlying332
 a32:=Tryz.isAgg332
 z32:=Tryz.sizeOf332
 v32:=Tryz.zeroValue332
 t35:=Tryz.underlying493
 a35:=Tryz.isAgg493
 z35:=Tryz.sizeOf493
 v35:=Tryz.zeroValue493
 t36:=Tryz.underlying494
 a36:=Tryz.isAgg494
 z36:=Tryz.sizeOf494
 v36:=Tryz.zeroValue494
 t41:=Tryz.underlying498
 a41:=Tryz.isAgg498
 z41:=Tryz.sizeOf498
 v41:=Tryz.zeroValue498
 t44:=Tryz.underlying331
 a44:=Tryz.isAgg331
 z44:=Tryz.sizeOf331
 v44:=Tryz.zeroValue331
 t46:=Tryz.underlying155
 a46:=Tryz.isAgg155
 z46:=Tryz.sizeOf155
 v46:=Tryz.zeroValue155
 t53:=Tryz.underlying537
 a53:=Tryz.isAgg537
 z53:=Tryz.sizeOf537
 v53:=Tryz.zeroValue537
 t57:=Tryz.underlying540
 a57:=Tryz.isAgg540
 z57:=Tryz.sizeOf540
 v57:=Tryz.zeroValue540
 t63:=Tryz.underlying548
 a63:=Tryz.isAgg548
 z63:=Tryz.sizeOf548
 v63:=Tryz.zeroValue548
 t64:=Tryz.underlying549
 a64:=Tryz.isAgg549
 z64:=Tryz.sizeOf549
 v64:=Tryz.zeroValue549 }
open Go.Shelf
def Tryz.sortKA_ren:Go.Shelf.Ren:=⟨fun|6=>218|15=>269|14=>272|28=>314|29=>315|20=>316|21=>317|22=>318|23=>319|24=>320|25=>321|26=>322|27=>323|46=>358|47=>354|48=>355|49=>359|50=>360|57=>377|n=>n,fun|22=>277|24=>154|25=>282|3=>3|39=>332|0=>0|53=>331|55=>155|4=>4|46=>494|45=>493|50=>498|5=>5|9=>9|66=>537|70=>540|76=>548|77=>549|n=>n,fun|n=>n⟩
theorem Tryz.sortKA:Go.Proofs.SlLaysF0.n6 Tryz.prog Tryz.sortKA_ren:={
 mixed:=by kernel_rfl
 f6:=⟨Tryz.f218.name,by decide,zt Tryz.func218⟩
 f14:=⟨Tryz.f272.name,by decide,zt Tryz.func272⟩
 f15:=zt Tryz.func269
 f20:=⟨Tryz.f316.name,by decide,zt Tryz.func316⟩
 f21:=⟨Tryz.f317.name,by decide,zt Tryz.func317⟩
 f22:=⟨Tryz.f318.name,by decide,zt Tryz.func318⟩
 f23:=⟨Tryz.f319.name,by decide,zt Tryz.func319⟩
 f24:=⟨Tryz.f320.name,by decide,zt Tryz.func320⟩
 f25:=⟨Tryz.f321.name,by decide,zt Tryz.func321⟩
 f26:=⟨Tryz.f322.name,by decide,zt Tryz.func322⟩
 f27:=⟨Tryz.f323.name,by decide,zt Tryz.func323⟩
 f28:=zt Tryz.func314
 f29:=zt Tryz.func315
 f46:=⟨Tryz.f358.name,by decide,zt Tryz.func358⟩
 f47:=zt Tryz.func354
 f48:=zt Tryz.func355
 f49:=⟨Tryz.f359.name,by decide,zt Tryz.func359⟩
 f50:=⟨Tryz.f360.name,by decide,zt Tryz.func360⟩
 f57:=⟨Tryz.f377.name,by decide,zt Tryz.func377⟩
 t0:=Tryz.underlying0
 a0:=Tryz.isAgg0
 z0:=Tryz.sizeOf0
 v0:=Tryz.zeroValue0
 t3:=Tryz.underlying3
 a3:=Tryz.isAgg3
 z3:=Tryz.sizeOf3
 v3:=Tryz.zeroValue3
 t4:=Tryz.underlying4
 a4:=Tryz.isAgg4
 z4:=Tryz.sizeOf4
 v4:=Tryz.zeroValue4
 t5:=Tryz.underlying5
 a5:=Tryz.isAgg5
 z5:=Tryz.sizeOf5
 v5:=Tryz.zeroValue5
 t9:=Tryz.underlying9
 a9:=Tryz.isAgg9
 z9:=Tryz.sizeOf9
 v9:=Tryz.zeroValue9
 t22:=Tryz.underlying277
 a22:=Tryz.isAgg277
 z22:=Tryz.sizeOf277
 v22:=Tryz.zeroValue277
 t25:=Tryz.underlying282
 a25:=Tryz.isAgg282
 z25:=Tryz.sizeOf282
 v25:=Tryz.zeroValue282
 t39:=Tryz.underlying332
 a39:=Tryz.isAgg332
 z39:=Tryz.sizeOf332
 v39:=Tryz.zeroValue332
 t45:=Tryz.underlying493
 a45:=Tryz.isAgg493
 z45:=Tryz.sizeOf493
 v45:=Tryz.zeroValue493
 t46:=Tryz.underlying494
 a46:=Tryz.isAgg494
 z46:=Tryz.sizeOf494
 v46:=Tryz.zeroValue494
 t50:=Tryz.underlying498
 a50:=Tryz.isAgg498
 z50:=Tryz.sizeOf498
 v50:=Tryz.zeroValue498
 t53:=Tryz.underlying331
 a53:=Tryz.isAgg331
 z53:=Tryz.sizeOf331
 v53:=Tryz.zeroValue331
 t55:=Tryz.underlying155
 a55:=Tryz.isAgg155
 z55:=Tryz.sizeOf155
 v55:=Tryz.zeroValue155
 t66:=Tryz.underlying537
 a66:=Tryz.isAgg537
 z66:=Tryz.sizeOf537
 v66:=Tryz.zeroValue537
 t70:=Tryz.underlying540
 a70:=Tryz.isAgg540
 z70:=Tryz.sizeOf540
 v70:=Tryz.zeroValue540
 t76:=Tryz.underlying548
 a76:=Tryz.isAgg548
 z76:=Tryz.sizeOf548
 v76:=Tryz.zeroValue548
 t77:=Tryz.underlying549
 a77:=Tryz.isAgg549
 z77:=Tryz.sizeOf549
 v77:=Tryz.zeroValue549 }
def Tryz.cloneA4_ren:Go.Shelf.Ren:=⟨fun|5=>127|7=>212|n=>n,fun|23=>272|25=>154|3=>161|4=>4|20=>20|n=>n,fun|n=>n⟩
theorem Tryz.cloneA4:Go.Proofs.SlLaysW.n5 Tryz.prog Tryz.cloneA4_ren:={
 mixed:=by kernel_rfl
 f5:=⟨Tryz.f127.name,by decide,zt Tryz.func127⟩
 f7:=zt Tryz.func212
 t4:=Tryz.underlying4
 a4:=Tryz.isAgg4
 z4:=Tryz.sizeOf4
 v4:=Tryz.zeroValue4
 t20:=Tryz.underlying20
 a20:=Tryz.isAgg20
 z20:=Tryz.sizeOf20
 v20:=Tryz.zeroValue20
 t23:=Tryz.underlying272
 a23:=Tryz.isAgg272
 z23:=Tryz.sizeOf272
 v23:=Tryz.zeroValue272 }
def Tryz.joinA_ren:Go.Shelf.Ren:=⟨fun|156=>289|165=>333|166=>334|169=>335|240=>365|241=>366|276=>379|277=>298|n=>n,fun|31=>408|9=>9|3=>3|4=>4|0=>0|20=>20|72=>519|76=>522|70=>517|37=>43|75=>521|127=>544|164=>552|5=>5|80=>422|n=>n,fun|n=>n⟩
theorem Tryz.joinA:Go.Proofs.Lays.n156 Tryz.prog Tryz.joinA_ren:={
 mixed:=by kernel_rfl
 f156:=zt Tryz.func289
 f165:=zt Tryz.func333
 f166:=zt Tryz.func334
 f169:=zt Tryz.func335
 f240:=zt Tryz.func365
 f241:=zt Tryz.func366
 f276:=zt Tryz.func379
 f277:=zt Tryz.func298
 t0:=Tryz.underlying0
 a0:=Tryz.isAgg0
 z0:=Tryz.sizeOf0
 v0:=Tryz.zeroValue0
 t3:=Tryz.underlying3
 a3:=Tryz.isAgg3
 z3:=Tryz.sizeOf3
 v3:=Tryz.zeroValue3
 t4:=Tryz.underlying4
 a4:=Tryz.isAgg4
 z4:=Tryz.sizeOf4
 v4:=Tryz.zeroValue4
 t9:=Tryz.underlying9
 a9:=Tryz.isAgg9
 z9:=Tryz.sizeOf9
 v9:=Tryz.zeroValue9
 t20:=Tryz.underlying20
 a20:=Tryz.isAgg20
 z20:=Tryz.sizeOf20
 v20:=Tryz.zeroValue20
 t31:=Tryz.underlying408
 a31:=Tryz.isAgg408
 z31:=Tryz.sizeOf408
 v31:=Tryz.zeroValue408
 t37:=Tryz.underlying43
 a37:=Tryz.isAgg43
 z37:=Tryz.sizeOf43
 v37:=Tryz.zeroValue43
 t70:=Tryz.underlying517
 a70:=Tryz.isAgg517
 z70:=Tryz.sizeOf517
 v70:=Tryz.zeroValue517
 t72:=Tryz.underlying519
 a72:=Tryz.isAgg519
 z72:=Tryz.sizeOf519
 v72:=Tryz.zeroValue519
 t75:=Tryz.underlying521
 a75:=Tryz.isAgg521
 z75:=Tryz.sizeOf521
 v75:=Tryz.zeroValue521
 t76:=Tryz.underlying522
 a76:=Tryz.isAgg522
 z76:=Tryz.sizeOf522
 v76:=Tryz.zeroValue522
 t127:=Tryz.underlying544
 a127:=Tryz.isAgg544
 z127:=Tryz.sizeOf544
 v127:=Tryz.zeroValue544
 t164:=Tryz.underlying552
 a164:=Tryz.isAgg552
 z164:=Tryz.sizeOf552
 v164:=Tryz.zeroValue552 }
open  Go.RowKit Go.Maps Go.Sort Go.Shelf
theorem jj{P:Program}{f:FuncId}{args:Array Value}{w:World}{K:KE}{Q:Ending->World->Prop}(h:Calls P f args w Q)(d:∀e a,Q e a->∃v,e=.returned v/\bW w a/\K v a.heap):Calls P f args w (Fin w K):=
 h.mono λe a b=>by
  obtain⟨v,rfl,i,c⟩:=d e a b;exact⟨i,c⟩
theorem zn(m:Nat):AnyZI.SortsIn Tryz.prog Tryz.sortedA_ren Fence.wide m:=
 ⟨λblk off cap c W d a b=>callsIn_wide.2 (AnyM.slices_Sort_int Tryz.sortA blk off cap c W d a b),
  λp cap W=>callsIn_wide.2 (AnyM.slices_Sort_int_none Tryz.sortA p cap W)⟩
theorem Pg{H:aD}{mb:Option Nat}{K:KE}(k:K (.func (.func 215) #[] #[.pointer (some ⟨H.size,0,none⟩)]) (H.push (.cells #[.map mb] 256))) :
  CF 117 #[.map mb] H K:=by
 refine .mk λw a=>?_
 subst a;have h:=(callsIn_wide (n:=5)).1 (AnyZI.keys_in Tryz.keysA Fence.wide 5 trivial rfl mb w);refine jj h ?_;rintro e b ⟨rfl,rfl⟩;exact⟨_,rfl,⟨rfl,rfl,rfl⟩,k⟩
theorem Ph{α:Type}{venc:α->Value}{H:aD}{L:List aE}{r:Nat}{m:List (Int×α)}(h:aA H L)(i:Nat)(O:aW i L=mapA (Value.int .i64) venc r m)(P:∀x∈aG m,aF x)(N:m.length<=17592186044416){K:KE}
  (k:∀a c u,aA u (slA 2 1 a m.length c ((sortI (aG m)).map (Value.int .i64))::L)->dB H u->K (.slice a m.length c) u) :
  CF 116 #[.func (.func 215) #[] #[.pointer (some ⟨H.size,0,none⟩)]] (H.push (.cells #[.map (some r)] 256)) K:=by
 refine .mk λw B=>?_
 have g:dB H w.heap:=by rw[B];exact dB.push _ _
 have F:aA w.heap L:=h.grow g;have M:=F.foc i;rw[O]at M;obtain⟨A,s,d,C⟩:=yL (k:=2) Tryz.underlying2 M P (by unfold maxLen;omega);have b:w.cell? ⟨H.size,0,none⟩=some (.map (some r)):=by
  simp[World.cell?,B]
 have j:SeqGives Fence.wide 2 Tryz.prog 215 #[.pointer (some ⟨H.size,0,none⟩)] encZ (λf=>f.Perm (intKeys A)) (Maps.size A) w:=
  AnyZI.keys_gives (ρ:=Tryz.keysA_ren) { Tryz.keysA with } Fence.wide _ trivial rfl (by omega) H.size r m.length A w (by rw[B];simp) b s
 have I:=AnyZI.sorted_in Tryz.sortedA Fence.wide 5 trivial trivial trivial trivial rfl (by omega) (zn _) (enters_of Tryz.func214 (by kernel_rfl) rfl) 215 #[.pointer (some ⟨H.size,0,none⟩)] trivial (enters_of Tryz.func215 (by kernel_rfl) rfl) _ _ (by unfold maxLen;omega) (by omega) w j;change CallsIn _ _ Tryz.prog 116 _ _ _ at I;refine jj ((callsIn_wide (n:=5)).1 I) ?_;rintro e S ⟨v,f,rfl,Q,t,D,hb⟩;obtain⟨a,c,rfl,E⟩:=F.of_row hb t;have J:f.Perm (aG m):=Q.trans d;have G:f.length=m.length:=by rw[J.length_eq];simp[aG]
 have R:f.mergeSort (λx y=>decide (x<=y))=sortI (aG m):=vQ J
 rw[R,G]at E;refine⟨_,rfl,tA hb,?_⟩;rw[G];exact k a c _ E (g.trans (rF hb))
theorem Gi{α:Type}{venc:α->Value}{H:aD}{L:List aE}{r:Nat}{m:List (Int×α)}(h:aA H L)(i:Nat)(n:aW i L=mapA (Value.int .i64) venc r m){K:KE}
  (k:∀b,aA b (mapA (Value.int .i64) venc H.size m::L)->dB H b->K (.map (some H.size)) b) :
  CF 115 #[.map (some r)] H K:=by
 refine .mk λw v=>?_
 subst v;have d:=h.foc i;rw[n]at d;obtain⟨f,c,a,t,j,x,u⟩:=mo d;have y:=AnyW.maps_Clone Tryz.cloneA r c a w u.get;refine jj y ?_;rintro e A ⟨rfl,rfl⟩;refine⟨_,rfl,⟨rfl,rfl,rfl⟩,k _ ?_ (dB.push _ _)⟩;exact (h.push (.map c a)).mono λp s=>⟨f,c,a,t,j,x,s⟩
theorem Pj{H:aD}{mb:Option Nat}{K:KE}(k:K (.func (.func 270) #[] #[.pointer (some ⟨H.size,0,none⟩)]) (H.push (.cells #[.map mb] 291))) :
  CF 216 #[.map mb] H K:=by
 refine .mk λw a=>?_
 subst a;have h:=(callsIn_wide (n:=5)).1 (AnyZI.keys_in Tryz.keysA2 Fence.wide 5 trivial rfl mb w);refine jj h ?_;rintro e b ⟨rfl,rfl⟩;exact⟨_,rfl,⟨rfl,rfl,rfl⟩,k⟩
theorem Pk{α:Type}{venc:α->Value}{H:aD}{L:List aE}{r:Nat}{m:List (Int×α)}(h:aA H L)(i:Nat)(O:aW i L=mapA (Value.int .i64) venc r m)(P:∀x∈aG m,aF x)(N:m.length<=17592186044416){K:KE}
  (k:∀a c u,aA u (slA 2 1 a m.length c ((sortI (aG m)).map (Value.int .i64))::L)->dB H u->K (.slice a m.length c) u) :
  CF 116 #[.func (.func 270) #[] #[.pointer (some ⟨H.size,0,none⟩)]] (H.push (.cells #[.map (some r)] 291)) K:=by
 refine .mk λw B=>?_
 have g:dB H w.heap:=by rw[B];exact dB.push _ _
 have F:aA w.heap L:=h.grow g;have M:=F.foc i;rw[O]at M;obtain⟨A,s,d,C⟩:=yL (k:=2) Tryz.underlying2 M P (by unfold maxLen;omega);have b:w.cell? ⟨H.size,0,none⟩=some (.map (some r)):=by
  simp[World.cell?,B]
 have j:SeqGives Fence.wide 2 Tryz.prog 270 #[.pointer (some ⟨H.size,0,none⟩)] encZ (λf=>f.Perm (intKeys A)) (Maps.size A) w:=
  AnyZI.keys_gives (ρ:=Tryz.keysA2_ren) { Tryz.keysA2 with } Fence.wide _ trivial rfl (by omega) H.size r m.length A w (by rw[B];simp) b s
 have I:=AnyZI.sorted_in Tryz.sortedA Fence.wide 5 trivial trivial trivial trivial rfl (by omega) (zn _) (enters_of Tryz.func214 (by kernel_rfl) rfl) 270 #[.pointer (some ⟨H.size,0,none⟩)] trivial (enters_of Tryz.func270 (by kernel_rfl) rfl) _ _ (by unfold maxLen;omega) (by omega) w j;change CallsIn _ _ Tryz.prog 116 _ _ _ at I;refine jj ((callsIn_wide (n:=5)).1 I) ?_;rintro e S ⟨v,f,rfl,Q,t,D,hb⟩;obtain⟨a,c,rfl,E⟩:=F.of_row hb t;have J:f.Perm (aG m):=Q.trans d;have G:f.length=m.length:=by rw[J.length_eq];simp[aG]
 have R:f.mergeSort (λx y=>decide (x<=y))=sortI (aG m):=vQ J
 rw[R,G]at E;refine⟨_,rfl,tA hb,?_⟩;rw[G];exact k a c _ E (g.trans (rF hb))
theorem Pl{α:Type}{venc:α->Value}{H:aD}{L:List aE}{r:Nat}{m:List (Int×α)}(h:aA H L)(i:Nat)(n:aW i L=mapA (Value.int .i64) venc r m){K:KE}
  (k:∀b,aA b (mapA (Value.int .i64) venc H.size m::L)->dB H b->K (.map (some H.size)) b) :
  CF 135 #[.map (some r)] H K:=by
 refine .mk λw v=>?_
 subst v;have d:=h.foc i;rw[n]at d;obtain⟨f,c,a,t,j,x,u⟩:=mo d;have y:=AnyW.maps_Clone Tryz.cloneA3 r c a w u.get;refine jj y ?_;rintro e A ⟨rfl,rfl⟩;refine⟨_,rfl,⟨rfl,rfl,rfl⟩,k _ ?_ (dB.push _ _)⟩;exact (h.push (.map c a)).mono λp s=>⟨f,c,a,t,j,x,s⟩
theorem Pm{H:aD}{mb:Option Nat}{K:KE}(k:K (.func (.func 338) #[] #[.pointer (some ⟨H.size,0,none⟩)]) (H.push (.cells #[.map mb] 250))) :
  CF 296 #[.map mb] H K:=by
 refine .mk λw a=>?_
 subst a;have h:=(callsIn_wide (n:=5)).1 (AnyZI.keys_in Tryz.keysA3 Fence.wide 5 trivial rfl mb w);refine jj h ?_;rintro e b ⟨rfl,rfl⟩;exact⟨_,rfl,⟨rfl,rfl,rfl⟩,k⟩
theorem Pn{α:Type}{venc:α->Value}{H:aD}{L:List aE}{r:Nat}{m:List (Int×α)}(h:aA H L)(i:Nat)(O:aW i L=mapA (Value.int .i64) venc r m)(P:∀x∈aG m,aF x)(N:m.length<=17592186044416){K:KE}
  (k:∀a c u,aA u (slA 2 1 a m.length c ((sortI (aG m)).map (Value.int .i64))::L)->dB H u->K (.slice a m.length c) u) :
  CF 116 #[.func (.func 338) #[] #[.pointer (some ⟨H.size,0,none⟩)]] (H.push (.cells #[.map (some r)] 250)) K:=by
 refine .mk λw B=>?_
 have g:dB H w.heap:=by rw[B];exact dB.push _ _
 have F:aA w.heap L:=h.grow g;have M:=F.foc i;rw[O]at M;obtain⟨A,s,d,C⟩:=yL (k:=2) Tryz.underlying2 M P (by unfold maxLen;omega);have b:w.cell? ⟨H.size,0,none⟩=some (.map (some r)):=by
  simp[World.cell?,B]
 have j:SeqGives Fence.wide 2 Tryz.prog 338 #[.pointer (some ⟨H.size,0,none⟩)] encZ (λf=>f.Perm (intKeys A)) (Maps.size A) w:=
  AnyZI.keys_gives (ρ:=Tryz.keysA3_ren) { Tryz.keysA3 with } Fence.wide _ trivial rfl (by omega) H.size r m.length A w (by rw[B];simp) b s
 have I:=AnyZI.sorted_in Tryz.sortedA Fence.wide 5 trivial trivial trivial trivial rfl (by omega) (zn _) (enters_of Tryz.func214 (by kernel_rfl) rfl) 338 #[.pointer (some ⟨H.size,0,none⟩)] trivial (enters_of Tryz.func338 (by kernel_rfl) rfl) _ _ (by unfold maxLen;omega) (by omega) w j;change CallsIn _ _ Tryz.prog 116 _ _ _ at I;refine jj ((callsIn_wide (n:=5)).1 I) ?_;rintro e S ⟨v,f,rfl,Q,t,D,hb⟩;obtain⟨a,c,rfl,E⟩:=F.of_row hb t;have J:f.Perm (aG m):=Q.trans d;have G:f.length=m.length:=by rw[J.length_eq];simp[aG]
 have R:f.mergeSort (λx y=>decide (x<=y))=sortI (aG m):=vQ J
 rw[R,G]at E;refine⟨_,rfl,tA hb,?_⟩;rw[G];exact k a c _ E (g.trans (rF hb))
theorem Gj{α:Type}{venc:α->Value}{H:aD}{L:List aE}{r:Nat}{m:List (Int×α)}(h:aA H L)(i:Nat)(n:aW i L=mapA (Value.int .i64) venc r m){K:KE}
  (k:∀b,aA b (mapA (Value.int .i64) venc H.size m::L)->dB H b->K (.map (some H.size)) b) :
  CF 133 #[.map (some r)] H K:=by
 refine .mk λw v=>?_
 subst v;have d:=h.foc i;rw[n]at d;obtain⟨f,c,a,t,j,x,u⟩:=mo d;have y:=AnyW.maps_Clone Tryz.cloneA2 r c a w u.get;refine jj y ?_;rintro e A ⟨rfl,rfl⟩;refine⟨_,rfl,⟨rfl,rfl,rfl⟩,k _ ?_ (dB.push _ _)⟩;exact (h.push (.map c a)).mono λp s=>⟨f,c,a,t,j,x,s⟩
theorem Po(pre cs post:Os)(ys:List Int)(c:ys.length=cs.length) :
  putCells (Value.int .i64) pre.length ys.toArray (pre++cs++post).toArray=(pre++ys.map (Value.int .i64)++post).toArray:=by
 apply Array.ext';apply WO;intro j;simp only[putCells,List.size_toArray];rw[Array.getElem?_toList,Array.getElem?_mapIdx,List.getElem?_toArray];rw[VI,VI]
 by_cases h1:j<pre.length
 .have e1:(pre++(cs++post))[j]?=some pre[j]:=by rw[List.getElem?_append_left h1,List.getElem?_eq_getElem h1]
  have e2:(pre++(ys.map (Value.int .i64)++post))[j]?=some pre[j]:=by rw[List.getElem?_append_left h1,List.getElem?_eq_getElem h1]
  rw[e1,e2];simp only[We];rw[nO]
 .have e1:(pre++(cs++post))[j]?=(cs++post)[j-pre.length]?:=List.getElem?_append_right (by omega);have e2:(pre++(ys.map (Value.int .i64)++post))[j]?=(ys.map (Value.int .i64)++post)[j-pre.length]?:=List.getElem?_append_right (by omega);rw[e1,e2]
  by_cases h2:j<pre.length+ys.length
  .have b:j-pre.length<cs.length:=by omega
   have a:j-pre.length<ys.length:=by omega
   have e3:(cs++post)[j-pre.length]?=some cs[j-pre.length]:=by rw[List.getElem?_append_left b,List.getElem?_eq_getElem b]
   have e4:(ys.map (Value.int .i64)++post)[j-pre.length]?=some (.int .i64 ys[j-pre.length]):=by rw[List.getElem?_append_left (by simpa using a),List.getElem?_map,List.getElem?_eq_getElem a];rfl
   rw[e3,e4];simp only[We];rw[V1 ⟨by omega,h2⟩];simp[a]
  .have e3:(cs++post)[j-pre.length]?=post[j-pre.length-cs.length]?:=List.getElem?_append_right (by omega);have e4:(ys.map (Value.int .i64)++post)[j-pre.length]?=post[j-pre.length-cs.length]?:=by rw[List.getElem?_append_right (by simp;omega),VH,c]
   rw[e3,e4]
   cases hp:post[j-pre.length-cs.length]? with
   | none=>rfl
   | some v=>
    simp only[We];rw[nO]
theorem sl32:SlT Tryz.prog 43 5 1 1:=iP (by kernel_rfl)
section
variable {F L:List aE}{H:aD}{K:KE}
theorem zo{a:KQ}{c:Nat}{bs:List Int}(h:aA H L)(i:∀H,aA H L->aP H a (bs.map U8))(w:bs.length<=1099511627776)
  (k:∀e f d,aA d (slA 5 1 e bs.length f (bs.map U8)::L)->K (.slice e bs.length f) d):CF 166 #[.slice a bs.length c] H K:=by
 refine cM 166 476 ⟨λn=>?_,λn=>?_⟩
 .have:a=none:=by simpa using n
  subst this;have u:=oh (i H h);have:bs=[]:=by simpa using u
  subst this;exact k none 0 H (h.sl_nil 5 1)
 .refine h.al λb _ h=>?_
  have t:=i _ h.tl;have s:=aA.sl_pt (cs:=[]) h 1 0 rfl;refine aA.append (m:=bs.length) sl32 s 0 rfl t (by simp) (nD (λ_=>rfl) _) (by omega) (by omega) λe f d v=>⟨_,_,_,rfl,?_⟩
  have j:aA d (slA 5 1 e (0+bs.length) f ([]++bs.map U8)::L):=v;rw[VQ,Wh]at j;have:=k e f d j;rw[<-VQ bs.length]at this;exact this
end
theorem slB0{a:KQ}{c s:Nat}(h:a=some ⟨aU a,aS a,none⟩):cq a 0 c s=a:=by
 unfold cq
 split
 .rfl
 .rw [h,We,Yg,iQ];rfl
section
variable {F L:List aE}{H:aD}{K:KE}
theorem Gk{H:aD}{a b:KQ}{c d:Nat}{xs ys:List Int}(x:aP H a (xs.map U8))(hb:aP H b (ys.map U8))(A:xs.length<=1099511627776) :
  bV Tryz.prog 20 #[.slice a xs.length c,.slice b ys.length d] H (.bool (decide (xs=ys))):=by
 unfold bV;refine cN 20 0x1d21562139925b4c [[(5,sI)]] ?_;refine⟨λs=>?_,λs=>?_⟩
 .have:xs.length≠ys.length:=by simp at s;omega
  refine⟨?_,rfl⟩;rw[Wp (λe=>this (by rw[e]))];rfl
 .have w:xs.length=ys.length:=by simp at s;omega
  refine⟨λi t=>t=H/\∃k:Nat,i=k/\k<=xs.length/\xs.take k=ys.take k,λi _=>xs.length-i.toNat,⟨rfl,0,rfl,VX _,rfl⟩,?_⟩
  rintro i t ⟨rfl,k,rfl,y,n⟩;refine⟨λh=>?_,λh=>?_⟩
  .have m:k<xs.length:=by simpa using h
   have u:=x.at m;have v:=hb.at (j:=k) (by omega);have e3:i64.wrap ((k:Int)+1)=((k+1:Nat):Int):=aK;refine⟨⟨by omega,by omega⟩,_,_,u.1,_,u.2,⟨by omega,by omega⟩,_,_,v.1,_,v.2,λf=>?_,λf=>?_⟩
   .have:xs[k]≠ys[k]:=by simpa using f
    refine⟨?_,rfl⟩;rw[Wp (λe=>this (by simp[e]))];rfl
   .have:xs[k]=ys[k]:=by simpa using f
    conv=>whnf
    rw[e3];refine⟨⟨rfl,k+1,rfl,m,?_⟩,by simp only[VD];omega⟩;rw[Wj m,Wj (by omega),n,this]
  .have:k=xs.length:=by
    have:¬((k:Int)<xs.length):=by simpa using h
    omega
   subst this;rw[VZ (VA _),VZ (by omega)]at n;exact⟨by rw[VS n];rfl,rfl⟩
theorem Pp{a:KQ}{c:Nat}{bs:List Int}(h:aA H L)(s:∀H,aA H L->aP H a (bs.map U8))(u:bs.length<=1099511627776)
  (k:∀d f e,aA e (slA 5 1 d bs.length f (bs.map U8)::L)->K (.slice d bs.length f) e):CF 22 #[.slice a bs.length c] H K:=by
 refine cM 22 28 ?_;refine h.al λb _ h=>?_
 have t:=s _ h.tl;have n:=aA.sl_pt (cs:=[]) h 1 0 rfl;refine aA.append (m:=bs.length) sl32 n 0 rfl t (by simp) (nD (λ_=>rfl) _) (by omega) (by omega) λd f e j=>⟨_,_,_,rfl,?_⟩
 have i:aA e (slA 5 1 d (0+bs.length) f ([]++bs.map U8)::L):=j;rw[VQ,Wh]at i;have:=k d f e i;rw[<-VQ bs.length]at this;exact this
end
theorem aP.subB{H:aD}{a:KQ}{cs:Os}{k c:Nat}(h:aP H a cs)(n:cs.length<=c):aP H (cq a k c 1) (cs.drop k):=by
 intro j v d;have b:aT cs (k+j)=Option.some v:=by
  rw[fO]at d ⊢;rw[List.getElem?_drop]at d;exact d
 obtain⟨m,i⟩:=h (k+j) v b;have f:=od b;have e:cq a k c 1=Option.some ⟨aU a,aS a+k,none⟩:=by
  unfold cq;rw[nO,m,We,iQ,Wz];rfl
 rw[e];refine⟨rfl,?_⟩;show aL H (aU a) (aS a+k+j)=Option.some v;rw[Ws];exact i
theorem u32w{x:Int}(a:0<=x)(b:x<4294967296):u32.wrap x=x:=by
 simp only[IntKind.wrap,IntKind.bits,IntKind.signed]at *
 first|omega|(simp;omega)
theorem u8w{x:Int}(a:0<=x)(b:x<256):u8.wrap x=x:=by
 simp only[IntKind.wrap,IntKind.bits,IntKind.signed]at *
 first|omega|(simp;omega)
theorem u64w{x:Int}(a:0<=x)(b:x<18446744073709551616):u64.wrap x=x:=by
 simp only[IntKind.wrap,IntKind.bits,IntKind.signed]at *
 first|omega|(simp;omega)
def aH(l:List Int):Prop:=∀x∈l,0<=x/\x<256
def bR(u:Nat):List Int:=if h:u<128 then [(u:Int)] else ((128+u%128:Nat):Int)::bR (u/128)
termination_by u
decreasing_by omega
theorem lH{u:Nat}(h:u<128):bR u=[(u:Int)]:=by rw[bR,dif_pos h]
theorem nH{u:Nat}(h:¬u<128):bR u=((128+u%128:Nat):Int)::bR (u/128):=by rw[bR,dif_neg h]
theorem oU(u:Nat):aH (bR u):=by
 induction u using Nat.strongRecOn with
 | _ u ih=>
  by_cases h:u<128
  .rw [lH h];intro x a;rw[VE]at a;omega
  .rw [nH h];intro x a
   rcases VJ.1 a with rfl|a
   .omega
   .exact ih (u/128) (by omega) x a
theorem wi(u:Nat):0<(bR u).length:=by
 by_cases h:u<128
 .rw [lH h];exact Nat.zero_lt_one
 .rw [nH h];simp
inductive UR where
 | ok (u:Nat) (size:Nat)
 | form
 | ended
 deriving DecidableEq
def rdU:Nat->Nat->List Int->UR
 | _,_,[]=>.ended
 | acc,i,c::r=>if (c=0/\0<i)\/(1<c/\i=9) then .form else
   if c<128 then .ok (acc+c.toNat%128*2^(7*i)) (i+1) else rdU (acc+c.toNat%128*2^(7*i)) (i+1) r
theorem wj:∀{l:List Int} {acc i u n:Nat},aH l->rdU acc i l=.ok u n->i<=9->
  ∃w,u=acc+w*2^(7*i)/\i<n/\n-i<=l.length/\bR w=l.take (n-i)/\n<=10/\(0<i->w≠0)/\w*2^(7*i)<2^64
 | [],acc,i,u,n,_,h,_=>by simp[rdU]at h
 | c::r,acc,i,u,n,hb,h,hi=>by
  have m:=hb c VM;rw[rdU]at h
  split at h
  .cases h
  .rename_i a
   split at h
   .rename_i f
    cases h
    refine⟨c.toNat,?_,by omega,?_,?_,by omega,λh0=>?_,?_⟩
    .rw [WG (by omega)]
    .simp only[V9];omega
    .rw [lH (by omega),show i+1-i=1 by omega];simp only[WL,Yc];rw[Yy m.1]
    .intro e;exact a (Or.inl ⟨by omega,h0⟩)
    .by_cases b:i=9
     .subst b;have:c.toNat<=1:=by
       by_cases h1:1<c
       .exact V2 (Or.inr ⟨h1,rfl⟩) a
       .omega
      calc c.toNat*2^(7*9)<=1*2^(7*9):=Wy _ this
       _<2^64:=by decide
     .calc c.toNat*2^(7*i)<128*2^(7*i):=(Nat.mul_lt_mul_right (WV _)).2 (by omega)
       _=2^(7+7*i):=by rw[W2]
       _<=2^64:=Nat.pow_le_pow_right (by decide) (by omega)
   .rename_i d;have b:i≠9:=λe=>a (Or.inr ⟨by omega,e⟩)
    obtain⟨w,e1,e2,e3,e4,e5,e6,e7⟩:=wj (λx k=>hb x (VL _ k)) h (by omega)
    have v:=e6 (by omega);have em:c.toNat%128+128*w=c.toNat%128+w*128:=by omega
    have ep:(2:Nat)^(7*(i+1))=128*2^(7*i):=by rw[show 7*(i+1)=7+7*i by omega,W2]
    refine⟨c.toNat%128+128*w,?_,by omega,?_,?_,e5,λ_=>by omega,?_⟩
    .rw [e1,ep,Wn,<-Nat.mul_assoc,Nat.mul_comm w 128,Ws]
    .simp only[V9];omega
    .rw [nH (by omega),show n-i=(n-(i+1))+1 by omega,WL,<-e4];congr 1
     .omega
     .congr 1;omega
    .rw [ep]at e7;have s:i+1<=9:=by omega
     have j:w*2^(7*(i+1))<2^(64-7*(i+1))*2^(7*(i+1)):=by
      rw[<-W2,show 64-7*(i+1)+7*(i+1)=64 by omega,ep];exact e7
     have t:w<2^(64-7*(i+1)):=Nat.lt_of_mul_lt_mul_right j
     calc (c.toNat%128+128*w)*2^(7*i)<(128*2^(64-7*(i+1)))*2^(7*i):=(Nat.mul_lt_mul_right (WV _)).2 (by omega)
      _=2^64:=by rw[show (128:Nat)=2^7 from rfl,<-W2,<-W2,show 7+(64-7*(i+1))+7*i=64 by omega]
theorem wk:∀{w acc i:Nat} (r:List Int),w<2^(64-7*i)->i<=9->(0<i->w≠0)->
  rdU acc i (bR w++r)=.ok (acc+w*2^(7*i)) (i+(bR w).length):=by
 intro w
 induction w using Nat.strongRecOn with
 | _ w ih=>
  intro acc i r b hi h0
  by_cases h:w<128
  .rw [lH h,List.singleton_append,rdU,V0,pO]
   .rw [VD,WG h];rfl
   .rintro (⟨c,a⟩|⟨c,a⟩)
    .exact h0 a (by omega)
    .subst a;have:w<2:=by simpa using b
     omega
  .have d:i≠9:=by
    intro e;subst e;have:w<2:=by simpa using b
    omega
   rw[nH h,W7,rdU,V0,nO,ih (w/128) (by omega) r ?_ (by omega) (λ_=>by omega)]
   .have ep:(2:Nat)^(7*(i+1))=128*2^(7*i):=by rw[show 7*(i+1)=7+7*i by omega,W2]
    congr 1
    .rw [VD,ep,Ws,show (128+w%128)%128=w%128 by omega,<-Nat.mul_assoc,<-Wn];congr 2;omega
    .simp only[V9];omega
   .rw [Yb (by decide)]
    calc w<2^(64-7*i):=b
     _=2^(64-7*(i+1))*128:=by rw[show (128:Nat)=2^7 from rfl,<-W2,show 64-7*(i+1)+7=64-7*i by omega]
   .rintro (⟨c,a⟩|⟨c,a⟩)
    .omega
    .exact d a
theorem rdU_part:∀{w acc i k:Nat},k<(bR w).length->i+(bR w).length<=10->rdU acc i ((bR w).take k)=.ended:=by
 intro w
 induction w using Nat.strongRecOn with
 | _ w ih=>
  intro acc i k a hi
  by_cases h:w<128
  .rw [lH h]at a ⊢;have:k=0:=by simpa using a
   subst this;rfl
  .rw [nH h]at a hi ⊢
   cases k with
   | zero=>rfl
   | succ k=>
    have b:=wi (w/128);simp only[V9]at a hi;rw[WL,rdU,nO,nO];exact ih (w/128) (by omega) (by omega) (by omega)
theorem Pq:∀{w i:Nat},w<2^(64-7*i)->i<=9->i+(bR w).length<=10:=by
 intro w
 induction w using Nat.strongRecOn with
 | _ w ih=>
  intro i a hi
  by_cases h:w<128
  .rw [lH h];simp only[Wo];omega
  .have b:i≠9:=by
    intro e;subst e;have:w<2:=by simpa using a
    omega
   rw[nH h];have:=ih (w/128) (by omega) (i:=i+1) (by
    rw[Yb (by decide)]
    calc w<2^(64-7*i):=a
     _=2^(64-7*(i+1))*128:=by rw[show (128:Nat)=2^7 from rfl,<-W2,show 64-7*(i+1)+7=64-7*i by omega]) (by omega)
   simp only[V9];omega
theorem oV(n:Nat):u8.wrap (n:Int)=((n%256:Nat):Int):=by
 simp only[IntKind.wrap,IntKind.bits,IntKind.signed]
 <;> (try simp) <;> (try omega)
theorem or8_all:∀n,n<256->(n ||| 128)=128+n%128:=by decide +kernel
theorem Pr(n:Nat):aX .or .u8 (u8.wrap (n:Int)) 128=((128+n%128:Nat):Int):=by
 rw[oV];unfold aX;have e1:(BitVec.ofInt u8.bits ((n%256:Nat):Int)).toNat=n%256:=by
  rw[Y9,YA];exact WG (W6 _ (by decide))
 have e2:(BitVec.ofInt u8.bits (128:Int)).toNat=128:=by decide
 have:u8.wrap (((n%256) ||| 128:Nat):Int)=((128+n%128:Nat):Int):=by
  rw[or8_all _ (W6 _ (by decide)),oV];omega
 show u8.wrap ((BitVec.ofInt u8.bits ((n%256:Nat):Int) ||| BitVec.ofInt u8.bits 128).toNat:Int)=_;rw[BitVec.toNat_or,e1,e2,this]
theorem shift7(n:Nat):Int.fdiv (n:Int) (2^(min (Int.toNat 7) (u64.bits)))=((n/128:Nat):Int):=by
 show Int.fdiv (n:Int) 128=_;rw[WT _ (by decide)];omega
section
variable {F L:List aE}{H:aD}{K:KE}
theorem ol{u:Nat}(a:u<18446744073709551616):(bR u).length<=10:=by
 have:=Pq (w:=u) (i:=0) (by simpa using a) (by omega);omega
theorem wl{a:KQ}{c:Nat}{bs:List Int}{u:Nat}(h:aA H (slA 5 1 a bs.length c (bs.map U8)::F))(C:bs.length<=1099511627776)(t:u<18446744073709551616)
  (k:∀d e f,aA f (slA 5 1 d (bs++bR u).length e ((bs++bR u).map U8)::F)->K (.slice d (bs++bR u).length e) f) :
  CF 112 #[.slice a bs.length c,.int .u64 u] H K:=by
 refine cN 112 5161250280592460 [[(0,sS),(1,sU)]] ?_;refine⟨λd y e v f=>∃(cs:List Int) (w:Nat),y=cs.length/\v=w/\w<18446744073709551616/\cs++bR w=bs++bR u/\aA f (slA 5 1 d cs.length e (cs.map U8)::F),λ_ _ _ u _=>u.toNat,
  ⟨bs,u,rfl,rfl,t,rfl,h⟩,?_⟩
 rintro a1 n1 c1 u1 B ⟨cs,w,rfl,rfl,A,j,n⟩;have x:cs.length<=1099511627786:=by
  have:=congrArg List.length j;simp only[V3]at this;have:=ol t;omega
 refine⟨λm=>?_,λm=>?_⟩
 .have b:¬w<128:=by simp at m;omega
  rintro _ _ rfl rfl;rw[Pr];refine n.append1 sl32 0 rfl (by rfl) (by rfl) (by omega) (by omega) λd e s i=>⟨_,_,_,rfl,by decide,?_,by dsimp only;rw[shift7];omega⟩
  refine⟨cs++[((128+w%128:Nat):Int)],w/128,by simp,shift7 w,by omega,?_,?_⟩
  .rw [<-j,nH b,VI,List.singleton_append]
  .rw [VT,V3];exact i
 .have b:w<128:=by simp at m;omega
  rintro _ _ rfl rfl;rw[oV];refine n.append1 sl32 0 rfl (by rfl) (by rfl) (by omega) (by omega) λd e s i=>⟨_,_,_,rfl,?_⟩
  have:=k d e s;rw[<-j,lH b,V3]at this;refine this ?_;rw[VT];rw[WG (by omega)]at i;exact i
end
theorem Gl{a m p:Nat}(d:a<2^p)(h:a+m*2^p<18446744073709551616):aX .or .u64 (a:Int) ((m*2^p:Nat):Int)=((a+m*2^p:Nat):Int):=by
 have c:a<18446744073709551616:=by omega
 have b:m*2^p<18446744073709551616:=by omega
 have e1:(BitVec.ofInt u64.bits (a:Int)).toNat=a:=by
  rw[Y9,YA];exact WG c
 have e2:(BitVec.ofInt u64.bits ((m*2^p:Nat):Int)).toNat=m*2^p:=by
  rw[Y9,YA];exact WG b
 have e3:a ||| m*2^p=a+m*2^p:=by
  rw[Nat.mul_comm m,Nat.or_comm,<-YG d,Ye]
 show u64.wrap ((BitVec.ofInt u64.bits (a:Int) ||| BitVec.ofInt u64.bits ((m*2^p:Nat):Int)).toNat:Int)=_;rw[BitVec.toNat_or,e1,e2,e3,u64w (by omega) (by omega)]
theorem part64{c:Int}{i:Nat}(h0:0<=c)(b:c<256)(hi:i<=9)(a:i=9->c<=1) :
  u64.wrap ((u64.wrap (Int.tmod c 128))*2^(min (7*i) 64))=((c.toNat%128*2^(7*i):Nat):Int)/\c.toNat%128*2^(7*i)+2^(7*i)<=18446744073709551616:=by
 have em:Int.tmod c 128=((c.toNat%128:Nat):Int):=by rw[Int.tmod_eq_emod_of_nonneg h0];omega
 have hb:c.toNat%128*2^(7*i)+2^(7*i)<=18446744073709551616:=by
  have e:c.toNat%128*2^(7*i)+2^(7*i)=(c.toNat%128+1)*2^(7*i):=by rw[Wn,Nat.one_mul]
  rw[e]
  by_cases h:i=9
  .have:=a h;subst h
   calc (c.toNat%128+1)*2^(7*9)<=2*2^(7*9):=Wy _ (by omega)
    _=18446744073709551616:=by decide
  .calc (c.toNat%128+1)*2^(7*i)<=128*2^(7*8):=Nat.mul_le_mul (by omega) (Nat.pow_le_pow_right (by decide) (by omega))
    _<=18446744073709551616:=by decide
 refine⟨?_,hb⟩;have d:0<2^(7*i):=WV _;rw[em,u64w (x:=((c.toNat%128:Nat):Int)) (by omega) (by omega),WR (by omega)];have:((c.toNat%128:Nat):Int)*2^(7*i)=((c.toNat%128*2^(7*i):Nat):Int):=by
  rw[WU,Int.natCast_pow];rfl
 rw[this,u64w (by omega) (by omega)]
def firV:UR->Value
 | .ok u n=>.tuple #[.int .u64 u,.int .i64 n,.int .i64 0]
 | .form=>.tuple #[.int .u64 0,.int .i64 0,.int .i64 10]
 | .ended=>.tuple #[.int .u64 0,.int .i64 0,.int .i64 15]
inductive RStep (bs:List Int)(k acc:Nat):Prop where
 | fin (h:bs.length<=k) (e:rdU acc k (bs.drop k)=.ended)
 | go (h:k<bs.length) (c:Int) (hc:bs[k]=c) (h0:0<=c) (h1:c<256) (hf:¬((c=0/\0<k)\/(1<c/\k=9)))
   (e1:c<128->rdU acc k (bs.drop k)=.ok (acc+c.toNat%128*2^(7*k)) (k+1))
   (e2:¬c<128->rdU acc k (bs.drop k)=rdU (acc+c.toNat%128*2^(7*k)) (k+1) (bs.drop (k+1)))
 | bad (h:k<bs.length) (c:Int) (hc:bs[k]=c) (hf:(c=0/\0<k)\/(1<c/\k=9)) (e:rdU acc k (bs.drop k)=.form)
theorem rstep{bs:List Int}(hb:aH bs)(k acc:Nat):RStep bs k acc:=by
 rcases VV k bs.length with h|h
 .have hd:bs.drop k=bs[k]::bs.drop (k+1):=Wv h;have b:=hb _ (VF h)
  by_cases hf:(bs[k]=0/\0<k)\/(1<bs[k]/\k=9)
  .exact .bad h _ rfl hf (by rw[hd,rdU,V1 hf])
  .refine .go h _ rfl b.1 b.2 hf (λa=>?_) (λa=>?_)
   .rw [hd,rdU,V0 hf,V1 a]
   .rw [hd,rdU,V0 hf,V0 a]
 .exact .fin h (by rw[List.drop_eq_nil_of_le h];rfl)
theorem Gm{H:aD}{a:KQ}{c:Nat}{bs:List Int}(I:aP H a (bs.map U8))(hb:aH bs)(L:bs.length<=1099511627776) :
  bV Tryz.prog 249 #[.slice a bs.length c] H (firV (rdU 0 0 bs)):=by
 unfold bV;refine cN 249 0x11215612399251d1b4c [[(5,sU),(10,sI)]] ?_;refine⟨λu i C=>C=H/\∃k b:Nat,i=k/\u=b/\k<=9/\k<=bs.length/\b<2^(7*k)/\rdU b k (bs.drop k)=rdU 0 0 bs,λ_ i _=>bs.length-i.toNat,⟨rfl,0,0,rfl,rfl,by decide,VX _,by decide,rfl⟩,?_⟩
 rintro u i C ⟨rfl,k,b,rfl,rfl,J,K,d,s⟩;refine⟨λB=>?_,λB=>?_⟩
 .have t:k<bs.length:=by simpa using B
  have D:=I.at t;refine⟨⟨by omega,by omega⟩,_,_,D.1,_,D.2,?_⟩;have e7:i64.wrap (7*(k:Int))=((7*k:Nat):Int):=by rw[aK];omega
  have E:i64.wrap ((k:Int)+1)=((k+1:Nat):Int):=aK
  rcases rstep hb k b with ⟨h,_⟩|⟨h,x,A,h0,y,n,e1,e2⟩|⟨h,x,A,n,e⟩
  .omega
  .rw [A];have F:=part64 (c:=x) (i:=k) h0 y J (λe9=>by
    rcases Int.lt_or_le 1 x with v|v
    .exact V2 (Or.inr ⟨v,e9⟩) n
    .exact v)
   refine⟨λf=>?_,λ_=>⟨by decide,by rw[e7];omega,λj=>?_,λj=>?_⟩⟩
   .exfalso;apply n;simp only[VN,V7,V6]at f;omega
   .conv=>whnf
    rw[e7,E,VD];show _=_/\_;have m:u64.wrap (u64.wrap (Int.tmod x 128)*2^(min (7*k) u64.bits))=((x.toNat%128*2^(7*k):Nat):Int):=F.1;rw[m,Gl d (by omega),<-s,e1 (by simpa using j)];exact⟨rfl,rfl⟩
   .conv=>whnf
    rw[e7,E,VD];have m:u64.wrap (u64.wrap (Int.tmod x 128)*2^(min (7*k) u64.bits))=((x.toNat%128*2^(7*k):Nat):Int):=F.1;have w:¬x<128:=by simpa using j
    rw[m,Gl d (by omega)];have k9:k≠9:=λe9=>n (Or.inr ⟨by omega,e9⟩)
    refine⟨⟨rfl,k+1,_,rfl,rfl,by omega,by omega,?_,?_⟩,by dsimp only;omega⟩
    .calc b+x.toNat%128*2^(7*k)<2^(7*k)+x.toNat%128*2^(7*k):=by omega
      _=(x.toNat%128+1)*2^(7*k):=by rw[Wn,Nat.one_mul,Ye]
      _<=128*2^(7*k):=Wy _ (by omega)
      _=2^(7*(k+1)):=by rw[show 7*(k+1)=7+7*k by omega,W2]
    .rw [<-s,e2 w]
  .rw [A];refine⟨λ_=>?_,λf=>?_⟩
   .rw [<-s,e];exact⟨rfl,rfl⟩
   .exfalso;simp only[VK,Wl,V8]at f;omega
 .have G:bs.length<=k:=by simp at B;omega
  rcases rstep hb k b with ⟨h,e⟩|⟨h,_⟩|⟨h,_⟩
  .rw [<-s,e];exact⟨rfl,rfl⟩
  .omega
  .omega
def cntV(most:Int):UR->Value
 | .ok u n=>if max most 0<(u:Int) then .tuple #[.int .i64 0,.int .i64 0,.int .i64 17] else .tuple #[.int .i64 u,.int .i64 n,.int .i64 0]
 | .form=>.tuple #[.int .i64 0,.int .i64 0,.int .i64 10]
 | .ended=>.tuple #[.int .i64 0,.int .i64 0,.int .i64 15]
theorem Gn{H:aD}{a:KQ}{c:Nat}{bs:List Int}{most:Int}(j:aP H a (bs.map U8))(hb:aH bs)(k:bs.length<=1099511627776)(hm:aF most) :
  bV Tryz.prog 254 #[.slice a bs.length c,.int .i64 most] H (cntV most (rdU 0 0 bs)):=by
 unfold bV;refine cM 254 73180 ?_;have b:=Gm (c:=c) j hb k;have i:u64.wrap (if 0>most then 0 else most)=max most 0:=by
  unfold aF at hm
  split <;> rw[u64w (by omega) (by omega)] <;> omega
 cases hr:rdU 0 0 bs with
 | ok u n=>
  rw[hr]at b;refine⟨_,_,_,b,(λd=>by cases d),λ_=>⟨λh=>?_,λh=>?_⟩⟩
  .have e:max most 0<(u:Int):=by rw[<-i];simpa using h
   unfold cntV;dsimp only;rw[V1 e];exact⟨rfl,rfl⟩
  .have f:¬max most 0<(u:Int):=by rw[<-i];simpa using h
   unfold cntV;unfold aF at hm;dsimp only;rw[V0 f];exact⟨by show Value.tuple #[.int .i64 (i64.wrap _),_,_]=_;rw[aK],rfl⟩
 | form=>
  rw[hr]at b;exact⟨_,_,_,b,λ_=>⟨rfl,rfl⟩,(λd=>by cases d)⟩
 | ended=>
  rw[hr]at b;exact⟨_,_,_,b,λ_=>⟨rfl,rfl⟩,(λd=>by cases d)⟩
section
variable {F L:List aE}{H:aD}{K:KE}
theorem zp{a:KQ}{c:Nat}{u:Nat}(h:aA H F)(s:∀H,aA H F->aP H a [.int .u64 u])(x:u<18446744073709551616)
  (k:∀d e b,aA b (slA 5 1 d (bR u).length e ((bR u).map U8)::F)->K (.slice d (bR u).length e) b) :
  CF 111 #[.slice a 1 c] H K:=by
 refine cN 111 0x1121561239925144c [[(3,sS),(8,sI)]] ?_;refine⟨λd n e i b=>(i=0/\n=0/\e=0/\d=none/\aA b F)\/(i=1/\n=(bR u).length/\aA b (slA 5 1 d (bR u).length e ((bR u).map U8)::F)),λ_ _ _ i _=>1-i.toNat,
  .inl ⟨rfl,rfl,rfl,rfl,h⟩,?_⟩
 rintro a1 n1 c1 i w (⟨rfl,rfl,rfl,rfl,f⟩|⟨rfl,rfl,f⟩)
 .skip
  refine⟨λ_=>?_,(λj=>by cases j)⟩
  have m:=(s _ f) 0 _ rfl;refine⟨by decide,_,_,m.1,_,m.2,?_⟩;have v:aA w (slA 5 1 none ([]:List Int).length 0 (([]:List Int).map U8)::F):=f.sl_nil 5 1;refine wl (bs:=[]) v (by simp) x λd e b t=>⟨_,_,_,rfl,.inr ⟨rfl,rfl,t⟩,by dsimp only;decide⟩
 .skip
  exact⟨(λj=>by cases j),λ_=>k _ _ _ f⟩
end
structure RS where
 e:Int
 bs:List Int
def bY(most:Int)(s:RS):Int×RS:=if s.e≠0 then (0,s) else match rdU 0 0 s.bs with
 | .ok u n=>if max most 0<(u:Int) then (0,⟨17,s.bs⟩) else (u,⟨0,s.bs.drop n⟩)
 | .form=>(0,⟨10,s.bs⟩)
 | .ended=>(0,⟨15,s.bs⟩)
def aY(most:Int)(s:RS):List Int×RS:=if s.e≠0 then ([],s) else match rdU 0 0 s.bs with
 | .ok u n=>if max most 0<(u:Int) then ([],⟨17,s.bs⟩) else if s.bs.length<n+u then ([],⟨15,s.bs⟩) else ((s.bs.drop n).take u,⟨0,s.bs.drop (n+u)⟩)
 | .form=>([],⟨10,s.bs⟩)
 | .ended=>([],⟨15,s.bs⟩)
theorem qq{bs:List Int}{u n:Nat}(hb:aH bs)(h:rdU 0 0 bs=.ok u n):0<n/\n<=bs.length/\u<18446744073709551616:=by
 obtain⟨w,c,b,d,_,_,_,a⟩:=wj hb h (by omega);refine⟨b,by omega,?_⟩;simp only[Nat.mul_zero,Nat.pow_zero,Wz]at c a;omega
def crdA(b:Nat)(s:RS):aE:=exS λp:KQ×Nat=>cellsA b [.slice p.1 s.bs.length p.2,.int .i64 s.e] 432*slA 5 1 p.1 s.bs.length p.2 (s.bs.map U8)
theorem iy{H:aD}{b:Nat}{s:RS}{L:List aE}:aA H (crdA b s::L)↔∃a c,aA H (cellsA b [.slice a s.bs.length c,.int .i64 s.e] 432::slA 5 1 a s.bs.length c (s.bs.map U8)::L):=by
 unfold crdA;rw[cJ]
 constructor
 .rintro⟨p,h⟩;exact⟨p.1,p.2,gu.1 h⟩
 .rintro⟨a,c,h⟩;exact⟨(a,c),gu.2 h⟩
def bF(s:List Int):Fa:=strOfNums s
section
variable {F L:List aE}{H:aD}{K:KE}
theorem zq{b n c size:Nat}{a:KQ}(h:aA H (cellsA b [.slice a n c,.int .i64 0] 432::F))(hs:size<=n)(f:n<=c)
  (k:∀e,aA e (cellsA b [.slice (cq a size c 1) (n-size) (c-size),.int .i64 0] 432::F)->K (.bool true) e) :
  CF 250 #[.pointer (some ⟨b,0,none⟩),.int .i64 size,.int .i64 0] H K:=by
 refine cM 250 125110962460 ?_;refine⟨_,h.r 0,(λd=>by cases d),λ_=>⟨(λd=>by cases d),λ_=>⟨_,_,_,h.rd 0 rfl _,⟨by omega,by omega,by omega⟩,?_⟩⟩⟩
 rw[VD];exact h.st 0 rfl rfl λe h=>k _ h
theorem nI{b n c:Nat}{size e:Int}{a:KQ}(h:aA H (cellsA b [.slice a n c,.int .i64 0] 432::F))(i:e≠0)
  (k:∀f,aA f (cellsA b [.slice a n c,.int .i64 e] 432::F)->K (.bool false) f) :
  CF 250 #[.pointer (some ⟨b,0,none⟩),.int .i64 size,.int .i64 e] H K:=by
 refine cM 250 125110962460 ?_;refine⟨_,h.r 0,(λd=>by cases d),λ_=>⟨λ_=>?_,λd=>by simp[i]at d⟩⟩
 exact h.st 0 rfl rfl λf h=>k _ h
theorem wm{b n c:Nat}{size e e0:Int}{a:KQ}(h:aA H (cellsA b [.slice a n c,.int .i64 e0] 432::F))(f:e0≠0)
  (k:K (.bool false) H):CF 250 #[.pointer (some ⟨b,0,none⟩),.int .i64 size,.int .i64 e] H K:=by
 refine cM 250 125110962460 ?_;exact⟨_,h.r 0,λ_=>k,λd=>by simp[f]at d⟩
theorem Err_spec{b n c:Nat}{e:Int}{a:KQ}(h:aA H (cellsA b [.slice a n c,.int .i64 e] 432::F)):bV Tryz.prog 173 #[.pointer (some ⟨b,0,none⟩)] H (.int .i64 e):=by
 unfold bV;refine cM 173 28 ?_;exact⟨_,h.r 0,rfl,rfl⟩
theorem Ps{b n c:Nat}{e:Int}{a:KQ}(h:aA H (cellsA b [.slice a n c,.int .i64 e] 432::F)):bV Tryz.prog 258 #[.pointer (some ⟨b,0,none⟩)] H (.int .i64 n):=by
 unfold bV;refine cM 258 28 ?_;exact⟨_,_,_,h.r 0,rfl,rfl⟩
theorem mA{b:Nat}{s:RS}(h:aA H (crdA b s::F)):bV Tryz.prog 173 #[.pointer (some ⟨b,0,none⟩)] H (.int .i64 s.e):=by
 obtain⟨a,c,h⟩:=iy.1 h;exact Err_spec h
theorem oW{b:Nat}{s:RS}(h:aA H (crdA b s::F)):bV Tryz.prog 258 #[.pointer (some ⟨b,0,none⟩)] H (.int .i64 s.bs.length):=by
 obtain⟨a,c,h⟩:=iy.1 h;exact Ps h
theorem rR{a:KQ}{c:Nat}{bs:List Int}(h:aA H F)(e:∀H,aA H F->aP H a (bs.map U8))(f:bs.length<=1099511627776)
  (k:∀b d,aA d (crdA b ⟨0,bs⟩::F)->K (.pointer (some ⟨b,0,none⟩)) d):CF 168 #[.slice a bs.length c] H K:=by
 refine cM 168 28 ?_;refine zo h e f λi n j h=>⟨_,_,_,rfl,?_⟩
 refine h.al λb m h=>k _ _ ?_
 exact iy.2 ⟨_,_,h⟩
theorem tP{b:Nat}{s:RS}{most:Int}(h:aA H (crdA b s::F))(hb:aH s.bs)(D:s.bs.length<=1099511627776)(hm:aF most)
  (k:∀i,aA i (crdA b (bY most s).2::F)->K (.int .i64 (bY most s).1) i) :
  CF 251 #[.pointer (some ⟨b,0,none⟩),.int .i64 most] H K:=by
 obtain⟨e,bs⟩:=s;dsimp only at hb D;obtain⟨a,c,h⟩:=iy.1 h;dsimp only at h;have G:=h.sl_rd 1 rfl;have E:=h.sl_nc 1 rfl;refine cM 251 4572 ?_;have d:=Gn (c:=c) G hb D hm;have fin:∀r1 x:Int,∀(r:Int),(bY most ⟨e,bs⟩=(0,⟨x,bs⟩))->(∀t,(∀i,aA i (cellsA b [.slice a bs.length c,.int .i64 x] 432::slA 5 1 a bs.length c (bs.map U8)::F)->t (.bool false) i)->CF 250 #[.pointer (some ⟨b,0,none⟩),.int .i64 r1,.int .i64 r] H t)->
   CF 250 #[.pointer (some ⟨b,0,none⟩),.int .i64 r1,.int .i64 r] H λu B=>∃r3:Bool,u=(.bool r3)/\(((!r3))=true->K (.int .i64 0) B)/\(((!r3))=false->K (.int .i64 (bY most ⟨e,bs⟩).1) B):=by
  intro r1 x r v f;rw[v]at k ⊢;exact f _ λi y=>⟨_,rfl,λ_=>k _ (iy.2 ⟨_,_,y⟩),λm=>by cases m⟩
 by_cases v:e=0
 .subst v
  cases hu:rdU 0 0 bs with
  | ok u n=>
   obtain⟨I,C,J⟩:=qq hb hu;rw[hu]at d;unfold cntV at d;dsimp only at d
   by_cases hm1:max most 0<(u:Int)
   .rw [V1 hm1]at d;refine⟨_,_,_,h.r 0,_,_,_,d,?_⟩;have f:=fin 0 17 17 (by unfold bY;simp[hu,hm1]) λt j=>nI h (by decide) j
    have e0:(bY most ⟨0,bs⟩).1=0:=by unfold bY;simp[hu,hm1]
    rw[e0]at f;exact f
   .rw [V0 hm1]at d;refine⟨_,_,_,h.r 0,_,_,_,d,?_⟩;have ec:bY most ⟨0,bs⟩=((u:Int),⟨0,bs.drop n⟩):=by unfold bY;simp[hu,hm1]
    rw[ec]at k;refine zq h C E λi y=>⟨_,rfl,(λm=>by cases m),λ_=>k _ ?_⟩
    have A:=y.sl_drop 1 rfl n C;rw[Wz,<-List.map_drop]at A;refine iy.2 ⟨cq a n c 1,c-n,?_⟩;dsimp only;rw[VP];exact A
  | form=>
   rw[hu]at d;refine⟨_,_,_,h.r 0,_,_,_,d,?_⟩;have f:=fin 0 10 10 (by unfold bY;simp[hu]) λt j=>nI h (by decide) j
   have e0:(bY most ⟨0,bs⟩).1=0:=by unfold bY;simp[hu]
   rw[e0]at f;exact f
  | ended=>
   rw[hu]at d;refine⟨_,_,_,h.r 0,_,_,_,d,?_⟩;have f:=fin 0 15 15 (by unfold bY;simp[hu]) λt j=>nI h (by decide) j
   have e0:(bY most ⟨0,bs⟩).1=0:=by unfold bY;simp[hu]
   rw[e0]at f;exact f
 .have ec:bY most ⟨e,bs⟩=(0,⟨e,bs⟩):=by unfold bY;simp[v]
  rw[ec]at k;have w:∃r r1 r2:Int,cntV most (rdU 0 0 bs)=.tuple #[.int .i64 r,.int .i64 r1,.int .i64 r2]:=by
   unfold cntV
   split
   .split <;> exact⟨_,_,_,rfl⟩
   .exact⟨_,_,_,rfl⟩
   .exact⟨_,_,_,rfl⟩
  obtain⟨r,r1,r2,w⟩:=w;rw[w]at d;refine⟨_,_,_,h.r 0,_,_,_,d,?_⟩;exact wm h v ⟨_,rfl,λ_=>k _ (iy.2 ⟨_,_,h⟩),λm=>by cases m⟩
theorem oX{H:aD}{a:KQ}{c:Nat}{bs:List Int}(h:a=none\/∃b o,a=some ⟨b,o,none⟩)(e:aP H a (bs.map U8)):dj Tryz.prog (convert 43 9 (.slice a bs.length c)) H (.string (bF bs)):=by
 intro w f;subst f
 rcases h with rfl|⟨b,o,rfl⟩
 .have:=oh e;have hb:bs=[]:=by simpa using this
  subst hb;exact run_convert_bytes_nil w 43 5 (by kernel_rfl) (by kernel_rfl) _ _ 9 (by kernel_rfl)
 .refine run_convert_bytes_arg w 43 5 (by kernel_rfl) (by kernel_rfl) b o _ c bs rfl (λi hi=>?_) 9 (by kernel_rfl)
  have d:=(e.at hi).2;simp only[aU,aS]at d;rw[show bs.getD i 0=bs[i] by simp[List.getD,List.getElem?_eq_getElem hi]];rw[cell?_cellAt];exact d
theorem slB_is{e sz n c k:Nat}{a:KQ}{cs:Os}(h:aA H (slA e sz a n c cs::F)):cq a k c sz=none\/∃b o,cq a k c sz=some ⟨b,o,none⟩:=by
 have d:a=none\/∃b o,a=some ⟨b,o,none⟩:=by
  rcases (kz (F:=star F) h).2 with ⟨d,_⟩|⟨b,pre,post,f,fr,d,_⟩
  .exact .inl d
  .exact .inr ⟨_,_,d⟩
 unfold cq
 split
 .exact d
 .rcases d with rfl|⟨b,o,rfl⟩
  .exact .inl rfl
  .right;rw[We,iQ];exact⟨_,_,rfl⟩
theorem nJ{b:Nat}{s:RS}{most:Int}(h:aA H (crdA b s::F))(hb:aH s.bs)(M:s.bs.length<=1099511627776)(hm:aF most)
  (k:∀v,aA v (crdA b (aY most s).2::F)->K (.string (bF (aY most s).1)) v) :
  CF 176 #[.pointer (some ⟨b,0,none⟩),.int .i64 most] H K:=by
 obtain⟨e,bs⟩:=s;dsimp only at hb M;obtain⟨a,c,h⟩:=iy.1 h;dsimp only at h;have R:=h.sl_rd 1 rfl;have I:=h.sl_nc 1 rfl;refine OH ?_;have f:=Gn (c:=c) R hb M hm;have fin:∀(r r1 d G:Int),aY most ⟨e,bs⟩=([],⟨G,bs⟩)->(∀w:KE,(∀v,aA v (cellsA b [.slice a bs.length c,.int .i64 G] 432::slA 5 1 a bs.length c (bs.map U8)::F)->w (.bool false) v)->CF 250 #[.pointer (some ⟨b,0,none⟩),.int .i64 (i64.wrap (r1+r)),.int .i64 d] H w)->
   tO.r1 b 0 K r r1 d H:=by
  intro r r1 d G A O;unfold tO.r1;rw[A]at k;refine⟨_,_,_,h.r 0,?_⟩;exact O _ λv y=>⟨_,rfl,λ_=>k _ (iy.2 ⟨_,_,y⟩),λm=>by cases m⟩
 by_cases A:e=0
 .subst A
  cases hu:rdU 0 0 bs with
  | ok u n=>
   obtain⟨T,U,V⟩:=qq hb hu;rw[hu]at f;unfold cntV at f;dsimp only at f
   by_cases hm1:max most 0<(u:Int)
   .rw [V1 hm1]at f;refine⟨_,_,_,h.r 0,_,_,_,f,λ_=>trivial,_,_,_,λ_=>h.r 0,λB i=>⟨λm=>by simp at m,λ_=>i _ _ ?_⟩⟩
    exact fin _ _ _ 17 (by unfold aY;simp[hu,hm1]) λw j=>nI h (by decide) j
   .rw [V0 hm1]at f;unfold aF at hm;have S:(u:Int)<=9223372036854775807:=by omega
    have e1:i64.wrap (((bs.length:Nat):Int)-(n:Int))=((bs.length-n:Nat):Int):=by rw[aK];omega
    refine⟨_,_,_,h.r 0,_,_,_,f,λ_=>trivial,_,_,_,λ_=>h.r 0,λB i=>⟨λx=>i _ _ ?_,λx=>i _ _ ?_⟩⟩
    .rw [e1]at x;have C:bs.length<n+u:=by simp at x;omega
     exact fin _ _ _ 15 (by unfold aY;simp[hu,hm1,C]) λw j=>nI h (by decide) j
    .rw [e1]at x;have D:¬bs.length<n+u:=by simp at x;omega
     have P:aY most ⟨0,bs⟩=((bs.drop n).take u,⟨0,bs.drop (n+u)⟩):=by unfold aY;simp[hu,hm1,D]
     rw[P]at k;unfold tO.r1;have e2:i64.wrap ((n:Int)+(u:Int))=((n+u:Nat):Int):=by rw[aK];omega
     refine⟨_,_,_,h.r 0,?_⟩;rw[e2];refine zq h (by omega) I λv y=>⟨_,rfl,(λm=>by cases m),λ_=>⟨⟨by omega,by omega,by omega⟩,bF ((bs.drop n).take u),?_,k _ ?_⟩⟩
     .rw [VD,VD,Ya];have Q:=y.tl.sl_rd 0 rfl;have N:=(Q.subB (k:=n) (c:=c) (by simpa using I)).take u;rw[<-List.map_drop,<-List.map_take]at N;have L:=oX (c:=c-n) (slB_is y.tl) N;rw[VU,VP,WR (by omega)]at L;exact L
     .have J:=y.sl_drop 1 rfl (n+u) (by omega);rw[Wz,<-List.map_drop]at J;refine iy.2 ⟨cq a (n+u) c 1,c-(n+u),?_⟩;dsimp only;rw[VP];exact J
  | form=>
   rw[hu]at f;refine⟨_,_,_,h.r 0,_,_,_,f,λ_=>trivial,_,_,_,λ_=>h.r 0,λB i=>⟨λm=>by simp at m,λ_=>i _ _ ?_⟩⟩
   exact fin _ _ _ 10 (by unfold aY;simp[hu]) λw j=>nI h (by decide) j
  | ended=>
   rw[hu]at f;refine⟨_,_,_,h.r 0,_,_,_,f,λ_=>trivial,_,_,_,λ_=>h.r 0,λB i=>⟨λm=>by simp at m,λ_=>i _ _ ?_⟩⟩
   exact fin _ _ _ 15 (by unfold aY;simp[hu]) λw j=>nI h (by decide) j
 .have E:∃r r1 r2:Int,cntV most (rdU 0 0 bs)=.tuple #[.int .i64 r,.int .i64 r1,.int .i64 r2]:=by
   unfold cntV
   split
   .split <;> exact⟨_,_,_,rfl⟩
   .exact⟨_,_,_,rfl⟩
   .exact⟨_,_,_,rfl⟩
  obtain⟨r,r1,r2,E⟩:=E;rw[E]at f;have t:∀d,tO.r1 b 0 K r r1 d H:=λd=>fin r r1 d e (by unfold aY;simp[A]) λw j=>wm h A (j _ h)
  exact⟨_,_,_,h.r 0,_,_,_,f,λ_=>trivial,_,_,_,λ_=>h.r 0,λB i=>⟨λx=>i _ _ (t _),λ_=>i _ _ (t _)⟩⟩
end
theorem tQ{a b:List Int}(c:aH a)(hb:aH b):aH (a++b):=λx d=>(VR.1 d).elim (c x) (hb x)
theorem tR{a:List Int}(n:Nat)(b:aH a):aH (a.take n):=λx c=>b x (Ww c)
theorem oY{a:List Int}(n:Nat)(b:aH a):aH (a.drop n):=λx c=>b x (WE c)
theorem qr{xs:List Int}(h:aH xs)(i:Nat)(hi:i<xs.length):((UInt8.ofNat (xs[i]).toNat).toNat:Int)=xs[i]:=by
 have:=h _ (VF hi);rw[UInt8.toNat_ofNat'];omega
section
variable {F L:List aE}{H:aD}{K:KE}
theorem sl_same{H:aD}{a:KQ}{cs:Os}{c:Nat}(h:aP H a cs)(h0:cs≠[]):cq a 0 c 1=a:=by
 cases cs with
 | nil=>exact V2 rfl h0
 | cons v r=>exact slB0 (h 0 v rfl).1
end
section
variable {F L:List aE}{H:aD}{K:KE}
theorem wo{t:List Int}(hb:aH t)(h:aA H L)(k:∀a c x,aA x (slA 5 1 a t.length c (t.map U8)::L)->K (.slice a t.length c) x) :
  cB Tryz.prog (convert 9 43 (.string (bF t))) H K:=by
 refine .mk λw D=>?_
 subst D;have hs:(bF t).size=t.length:=strOfNums_size t;have m:=run_bytes_of_string w 9 43 5 (bF t) (P:=Tryz.prog) (by kernel_rfl) (by kernel_rfl) (by kernel_rfl);rw[hs]at m;have d:=grownCap_ge w t.length 0 5;obtain⟨cap,v⟩:∃cap,grownCap w t.length 0 5=cap:=⟨_,rfl⟩;rw[v]at m d;have f:(bytesRow (bF t) cap).toList=t.map U8++List.replicate (cap-t.length) (U8 0):=by
  have e1:(bytesRow (bF t) cap).toList=(bF t).data.toList.map (λb=>U8 (b.toNat:Int))++List.replicate (cap-(bF t).size) (U8 0):=by
   unfold bytesRow;simp only[Array.toList_append,Array.toList_map,Array.toList_replicate]
  have e2:(bF t).data.toList.map (λb=>U8 (b.toNat:Int))=t.map U8:=by
   have:(bF t).data.toList=t.map λn=>UInt8.ofNat n.toNat:=strOfNums_data t
   rw[this,Wr];refine W3 (by simp) λi A u=>?_
   simp only[Wx,Function.comp_apply];rw[qr hb i (by simpa using u)]
  rw[e1,e2,hs]
 have e:bytesRow (bF t) cap=(t.map U8++List.replicate (cap-t.length) (U8 0)).toArray:=by
  have:=congrArg List.toArray f
  rwa[Array.toArray_toList]at this
 refine⟨_,_,m,⟨rfl,rfl,rfl⟩,k _ _ _ ?_⟩;rw[e];have j:aA _ _:=h.push (.cells (t.map U8++List.replicate (cap-t.length) (U8 0)).toArray 5 ((t.map U8++List.replicate (cap-t.length) (U8 0)).toArray.size,(t.map U8++List.replicate (cap-t.length) (U8 0)).toArray.size+1));generalize hC:t.map U8++List.replicate (cap-t.length) (U8 0)=C at j;have s:C.length=cap:=by rw[<-hC];simp;omega
 refine aA.mono j λp j=>⟨by simp,.inr ⟨_,[],List.replicate (cap-t.length) (U8 0),5,(C.toArray.size,C.toArray.size+1),rfl,d,by simp,λ_ i A u y=>?_,?_⟩⟩
 .have B:=y.1;simp only[List.size_toArray,s]at B;simp only[VW]at u;omega
 .rw [Wh,hC];exact j
end
open  Go.RowKit Go.Maps Go.Sort Go.Shelf
theorem Pt{H:aD}{L:List aE}{a:KQ}{c:Nat}{xs:List Int}(h:aA H L)(i:Nat)(N:aW i L=slA 3 1 a xs.length c (xs.map (Value.int .i64)))(y:xs.length<4611686018427387904){K:KE}
  (k:∀D,aA D (put i (slA 3 1 a xs.length c ((sortI xs).map (Value.int .i64))) L)->K (.tuple #[]) D) :
  CF 256 #[.slice a xs.length c] H K:=by
 refine .mk λw J=>?_
 subst J;have E:=h.foc i;rw[N]at E;obtain⟨Q,⟨rfl,F,rfl,u⟩|⟨b,pre,post,C,fr,rfl,x,t,f,u⟩⟩:=kz E
 .have P:xs=[]:=WH.1 F;subst P;refine jj (AnyM.slices_Sort_int_none Tryz.sortI none 0 w) ?_;rintro e G ⟨rfl,rfl⟩;refine⟨_,rfl,⟨rfl,rfl,rfl⟩,k _ (aA.back ?_)⟩;rw[show (sortI ([]:List Int))=[] from yK List.Pairwise.nil];exact rB u
 .have hb:=aQ.get u;have v:b<w.heap.size:=aQ.lt u;have M:Holds (Value.int .i64) w b pre.length xs.toArray:=by
   intro j s;have d:j<xs.length:=by simpa using s
   refine⟨?_,?_⟩
   case refine_2=>
    have:=f (pre.length+j) (by omega) (by omega);simp only[World.frozen?,hb,Wl,V8];omega
   simp only[World.cell?,hb,Option.isSome_none,WZ,if_false,List.getElem?_toArray];rw[VI,List.getElem?_append_right (by omega),Ya,List.getElem?_append_left (by simpa using d),List.getElem?_map,List.getElem?_eq_getElem d];simp[d]
  refine jj (AnyM.slices_Sort_int Tryz.sortI b pre.length c xs w M v y) ?_;rintro e G ⟨rfl,n,os,rfl⟩;refine⟨_,rfl,⟨rfl,rfl,rfl⟩,k _ (aA.back ?_)⟩;have hs:(sortI xs).length=xs.length:=vR xs;have A:aQ (w.heap.modify b (onCells (putCells (Value.int .i64) pre.length (sortI xs).toArray))) (pt b (.cells (pre++(sortI xs).map (Value.int .i64)++post).toArray C fr)*star (del i L)):=by
   refine aQ.upd u ?_ λj s=>?_
   .rw [Array.getElem?_modify,V1 rfl,hb];simp only[We,onCells];rw[Po _ _ _ _ (by simp[hs])]
   .rw [Array.getElem?_modify,V0 (Ne.symm s)]
  have I:aQ (w.heap.modify b (onCells (putCells (Value.int .i64) pre.length (sortI xs).toArray))++os.toList.toArray) (pt b (.cells (pre++(sortI xs).map (Value.int .i64)++post).toArray C fr)*star (del i L)):=
   A.grow λj s=>by rw[Array.getElem?_append_left s]
  have m:=I.frame (B:=slA 3 1 (some ⟨b,pre.length,none⟩) xs.length c ((sortI xs).map (Value.int .i64))) λp O=>⟨by simp[hs],.inr ⟨b,pre,post,C,fr,rfl,x,t,λ_=>f,O⟩⟩
  simpa[grow,putRow,mapBlock,Sort.ahead,sortI] using m
theorem tS(x:Int):0<=u64.wrap x/\u64.wrap x<18446744073709551616:=by
 simp only[IntKind.wrap,IntKind.bits,IntKind.signed]
 constructor
 .simp;omega
 .simp;omega
theorem i64in(x:Int):aF (i64.wrap x):=by
 unfold aF;simp only[IntKind.wrap,IntKind.bits,IntKind.signed];simp;omega
def qt(v:Int):Int:=aX .xor .u64 (u64.wrap ((u64.wrap v)*2^(min (Int.toNat 1) (u64.bits)))) (u64.wrap (Int.fdiv v (2^(min (Int.toNat 63) (i64.bits)))))
def rS(u:Int):Int:=aX .xor .i64 (i64.wrap (Int.fdiv u (2^(min (Int.toNat 1) (u64.bits))))) (i64.wrap (0-(i64.wrap (aX .and .u64 u 1))))
theorem Gq(v:Int):0<=qt v/\qt v<18446744073709551616:=tS _
theorem rT(u:Int):aF (rS u):=i64in _
def turnN(v:Int):Nat:=(qt v).toNat
theorem zr(v:Int):(turnN v:Int)=qt v:=Yy (Gq v).1
theorem tT(v:Int):turnN v<18446744073709551616:=by have a:=zr v;have b:=Gq v;omega
def eK(l:List Nat):List Int:=l.flatMap bR
def cY(l:List Int):List Int:=l.flatMap λv=>bR (turnN v)
def dd(s:Fa):List Int:=bR s.size++fj s
def dC(l:List Fa):List Int:=l.flatMap dd
theorem dD{a b:List Int}(c:aH a)(hb:aH b):aH (a++b):=λx d=>(VR.1 d).elim (c x) (hb x)
theorem jy{α:Type}{f:α->List Int}{l:List α}(h:∀x∈l,aH (f x)):aH (l.flatMap f):=λx a=>by
 obtain⟨y,b,a⟩:=Yi.1 a;exact h y b x a
theorem kD:aH []:=λx a=>by cases a
theorem zu(l:List Nat):aH (eK l):=jy λ_ _=>oU _
theorem tU(l:List Int):aH (cY l):=jy λ_ _=>oU _
theorem qu(s:Fa):aH (dd s):=dD (oU _) (NH s)
theorem Pu(l:List Fa):aH (dC l):=jy λ_ _=>qu _
theorem tV:∀{l:List Nat},(∀u∈l,u<18446744073709551616)->(eK l).length<=10*l.length
 | [],_=>by simp[eK]
 | u::r,h=>by
  have c:=ol (h u VM);have b:=tV (l:=r) λx a=>h x (VL _ a)
  simp only[eK,Wb,V3,V9]at b ⊢;omega
theorem mB:∀(l:List Int),(cY l).length<=10*l.length
 | []=>by simp[cY]
 | v::r=>by
  have b:=ol (tT v);have a:=mB r;simp only[cY,Wb,V3,V9]at a ⊢;omega
theorem lI{s:Fa}(h:s.size<18446744073709551616):(dd s).length<=10+s.size:=by
 have:=ol h;rw[dd,V3,tD];omega
theorem jP{α β:Type}{f:α->List β}{l:List α}{i:Nat}(h:i<l.length):(l.take (i+1)).flatMap f=(l.take i).flatMap f++f l[i]:=by
 rw[List.take_add_one,List.getElem?_eq_getElem h,W4];simp
def bM(s:RS):Nat×RS:=if s.e≠0 then (0,s) else match rdU 0 0 s.bs with
 | .ok u n=>(u,⟨0,s.bs.drop n⟩)
 | .form=>(0,⟨10,s.bs⟩)
 | .ended=>(0,⟨15,s.bs⟩)
def dE(s:RS):Int×RS:=(rS (bM s).1,(bM s).2)
def dF(s:RS):RS:=if s.bs=[] then s else if s.e≠0 then s else ⟨10,s.bs⟩
theorem wp{bs:List Int}(n:Nat)(h:aH bs):aH (bs.drop n):=λx a=>h x (WE a)
theorem gL{s:RS}(h:aH s.bs):aH (bM s).2.bs:=by
 unfold bM
 split
 .exact h
 .split
  .exact wp _ h
  .exact h
  .exact h
theorem jQ(s:RS):(bM s).2.bs.length<=s.bs.length:=by
 unfold bM
 split
 .exact VA _
 .split
  .simp only[VP];omega
  .exact VA _
  .exact VA _
theorem wq{s:RS}(h:aH s.bs):(bM s).1<18446744073709551616:=by
 unfold bM
 split
 .exact Yo rfl
 .split
  .rename_i u n a;exact (qq h a).2.2
  .exact Yo rfl
  .exact Yo rfl
theorem rU{s:RS}{m:Int}(h:aH s.bs):aH (bY m s).2.bs:=by
 unfold bY
 split
 .exact h
 .split
  .split
   .exact h
   .exact wp _ h
  .exact h
  .exact h
theorem rV(s:RS)(m:Int):(bY m s).2.bs.length<=s.bs.length:=by
 unfold bY
 split
 .exact VA _
 .split
  .split
   .exact VA _
   .simp only[VP];omega
  .exact VA _
  .exact VA _
theorem lJ{s:RS}{m:Int}(h:aH s.bs):aH (aY m s).2.bs/\aH (aY m s).1:=by
 unfold aY
 split
 .exact⟨h,kD⟩
 .split
  .split
   .exact⟨h,kD⟩
   .split
    .exact⟨h,kD⟩
    .exact⟨wp _ h,λx a=>wp _ h x (Ww a)⟩
  .exact⟨h,kD⟩
  .exact⟨h,kD⟩
theorem mC(s:RS)(m:Int):(aY m s).2.bs.length<=s.bs.length/\(aY m s).1.length<=s.bs.length:=by
 unfold aY
 split
 .exact⟨VA _,VX _⟩
 .split
  .split
   .exact⟨VA _,VX _⟩
   .split
    .exact⟨VA _,VX _⟩
    .simp only[VP,VU];omega
  .exact⟨VA _,VX _⟩
  .exact⟨VA _,VX _⟩
section
variable {F L:List aE}{H:aD}{K:KE}
theorem Pw{v:Int}:bV Tryz.prog 113 #[.int .i64 v] H (.int .u64 (qt v)):=by
 refine cM 113 28 ?_;exact⟨by decide,by decide,rfl,rfl⟩
theorem Px{u:Int}:bV Tryz.prog 297 #[.int .u64 u] H (.int .i64 (rS u)):=by
 refine cM 297 28 ?_;exact⟨by decide,rfl,rfl⟩
theorem qv{a:KQ}{c:Nat}{us:List Nat}(h:aA H F)(A:∀H,aA H F->aP H a (us.map λu=>.int .u64 (u:Nat)))(y:∀u∈us,u<18446744073709551616)(G:us.length<=1000000)
  (k:∀f m d,aA d (slA 5 1 f (eK us).length m ((eK us).map U8)::F)->K (.slice f (eK us).length m) d) :
  CF 111 #[.slice a us.length c] H K:=by
 refine cN 111 0x1121561239925144c [[(3,sS),(8,sI)]] ?_;refine⟨λf C m i d=>∃j:Nat,i=j/\j<=us.length/\C=(eK (us.take j)).length/\aA d (slA 5 1 f (eK (us.take j)).length m ((eK (us.take j)).map U8)::F),λ_ _ _ i _=>us.length-i.toNat,
  ⟨0,rfl,VX _,rfl,h.sl_nil 5 1⟩,?_⟩
 rintro a1 n1 c1 i D ⟨j,rfl,E,rfl,n⟩;refine⟨λv=>?_,λv=>?_⟩
 .have b:j<us.length:=by simpa using v
  have w:=(A _ n.tl).at b;refine⟨⟨by omega,by omega⟩,_,_,w.1,us[j],w.2,?_⟩;have x:i64.wrap ((j:Int)+1)=((j+1:Nat):Int):=by rw[aK];omega
  have e:eK (us.take (j+1))=eK (us.take j)++bR us[j]:=jP b;have hb:(eK (us.take j)).length<=1099511627776:=by
   have:=tV (l:=us.take j) λu t=>y u (Ww t)
   rw[VU]at this;omega
  refine wl n hb (y _ (VF b)) λf m d B=>⟨_,_,_,rfl,⟨j+1,x,b,by rw[e],?_⟩,by rw[x];simp only[VD];omega⟩
  rw[e];exact B
 .have s:us.length<=j:=by simpa using v
  have e:us.take j=us:=VZ s;rw[e]at n ⊢;exact k _ _ _ n
theorem Gr{a:KQ}{c:Nat}{vs:List Int}(h:aA H F)(x:∀H,aA H F->aP H a (vs.map λv=>.int .i64 v))(D:vs.length<=1000000)
  (k:∀f m d,aA d (slA 5 1 f (cY vs).length m ((cY vs).map U8)::F)->K (.slice f (cY vs).length m) d) :
  CF 51 #[.slice a vs.length c] H K:=by
 refine cN 51 0x1121561239925144c [[(3,sS),(8,sI)]] ?_;refine⟨λf A m i d=>∃j:Nat,i=j/\j<=vs.length/\A=(cY (vs.take j)).length/\aA d (slA 5 1 f (cY (vs.take j)).length m ((cY (vs.take j)).map U8)::F),λ_ _ _ i _=>vs.length-i.toNat,
  ⟨0,rfl,VX _,rfl,h.sl_nil 5 1⟩,?_⟩
 rintro a1 n1 c1 i B ⟨j,rfl,C,rfl,n⟩;refine⟨λt=>?_,λt=>?_⟩
 .have b:j<vs.length:=by simpa using t
  have u:=(x _ n.tl).at b;refine⟨⟨by omega,by omega⟩,_,_,u.1,vs[j],u.2,_,Pw,?_⟩;have w:i64.wrap ((j:Int)+1)=((j+1:Nat):Int):=by rw[aK];omega
  have e:cY (vs.take (j+1))=cY (vs.take j)++bR (turnN vs[j]):=jP b;have hb:(cY (vs.take j)).length<=1099511627776:=by
   have:=mB (vs.take j);rw[VU]at this;omega
  conv=>whnf
  rw[<-zr];refine wl n hb (tT _) λf m d y=>⟨_,_,_,rfl,⟨j+1,w,b,by rw[e],?_⟩,by rw[w];simp only[VD];omega⟩
  rw[e];exact y
 .have s:vs.length<=j:=by simpa using t
  have e:vs.take j=vs:=VZ s;rw[e]at n ⊢;exact k _ _ _ n
theorem wr{a:KQ}{c:Nat}{ts:List Fa}(h:aA H F)(I:∀H,aA H F->aP H a (ts.map λs=>.string s))(hs:∀i,(dC (ts.take i)).length<=1000000000)(D:∀s∈ts,s.size<=1000000000)(O:ts.length<=1000000)
  (k:∀m n d,aA d (slA 5 1 m (dC ts).length n ((dC ts).map U8)::F)->K (.slice m (dC ts).length n) d) :
  CF 131 #[.slice a ts.length c] H K:=by
 refine cN 131 0x1121561239925144c [[(3,sS),(8,sI)]] ?_;refine⟨λm E n i d=>∃j:Nat,i=j/\j<=ts.length/\E=(dC (ts.take j)).length/\aA d (slA 5 1 m (dC (ts.take j)).length n ((dC (ts.take j)).map U8)::F),λ_ _ _ i _=>ts.length-i.toNat,
  ⟨0,rfl,VX _,rfl,h.sl_nil 5 1⟩,?_⟩
 rintro a1 n1 c1 i M ⟨j,rfl,N,rfl,t⟩;refine⟨λw=>?_,λw=>?_⟩
 .have b:j<ts.length:=by simpa using w
  have B:=(I _ t.tl).at b;have G:=D _ (VF b);refine⟨⟨by omega,by omega⟩,_,_,B.1,ts[j],B.2,?_⟩;have y:i64.wrap ((j:Int)+1)=((j+1:Nat):Int):=by rw[aK];omega
  have x:u64.wrap ((ts[j].size:Nat):Int)=((ts[j].size:Nat):Int):=u64w (by omega) (by omega);have e:dC (ts.take (j+1))=(dC (ts.take j)++bR ts[j].size)++fj ts[j]:=by
   rw[VI];exact jP (f:=dd) b
  have hb:=hs j;have A:=ol (u:=ts[j].size) (by omega)
  conv=>whnf
  rw[x];refine wl t (by omega) (by omega) λm n d J=>⟨_,_,_,rfl,?_⟩
  refine J.appendS sl32 (ts:=9) (by kernel_rfl) 0 rfl (by rw[V3];omega) (by rw[V3];omega) λa2 c2 L C=>⟨_,_,_,rfl,⟨j+1,y,b,?_,?_⟩,by rw[y];simp only[VD];omega⟩
  .rw [e,V3 (bs:=fj ts[j]),tD]
  .rw [e,V3 (bs:=fj ts[j]),tD,VT (l₂:=fj ts[j])];exact C
 .have v:ts.length<=j:=by simpa using w
  have e:ts.take j=ts:=VZ v;rw[e]at t ⊢;exact k _ _ _ t
theorem nK{b:Nat}{s:RS}(h:aA H (crdA b s::F))(hb:aH s.bs)(t:s.bs.length<=1099511627776)
  (k:∀i,aA i (crdA b (bM s).2::F)->K (.int .u64 ((bM s).1:Nat)) i) :
  CF 171 #[.pointer (some ⟨b,0,none⟩)] H K:=by
 obtain⟨e,bs⟩:=s;dsimp only at hb t;obtain⟨a,c,h⟩:=iy.1 h;dsimp only at h;have y:=h.sl_rd 1 rfl;have x:=h.sl_nc 1 rfl;refine cM 171 4572 ?_;have d:=Gm (c:=c) y hb t
 by_cases he:e=0
 .subst he
  cases hu:rdU 0 0 bs with
  | ok u n=>
   obtain⟨A,w,B⟩:=qq hb hu;rw[hu]at d;unfold firV at d;dsimp only at d;refine⟨_,_,_,h.r 0,_,_,_,d,?_⟩;have ec:bM ⟨0,bs⟩=(u,⟨0,bs.drop n⟩):=by unfold bM;simp[hu]
   rw[ec]at k;refine zq h w x λi j=>⟨_,rfl,(λf=>by cases f),λ_=>k _ ?_⟩
   have v:=j.sl_drop 1 rfl n w;rw[Wz,<-List.map_drop]at v;refine iy.2 ⟨cq a n c 1,c-n,?_⟩;dsimp only;rw[VP];exact v
  | form=>
   rw[hu]at d;have ec:bM ⟨0,bs⟩=(0,⟨10,bs⟩):=by unfold bM;simp[hu]
   rw[ec]at k;refine⟨_,_,_,h.r 0,_,_,_,d,?_⟩;exact nI h (by decide) λi j=>⟨_,rfl,λ_=>k _ (iy.2 ⟨_,_,j⟩),λf=>by cases f⟩
  | ended=>
   rw[hu]at d;have ec:bM ⟨0,bs⟩=(0,⟨15,bs⟩):=by unfold bM;simp[hu]
   rw[ec]at k;refine⟨_,_,_,h.r 0,_,_,_,d,?_⟩;exact nI h (by decide) λi j=>⟨_,rfl,λ_=>k _ (iy.2 ⟨_,_,j⟩),λf=>by cases f⟩
 .have ec:bM ⟨e,bs⟩=(0,⟨e,bs⟩):=by unfold bM;simp[he]
  rw[ec]at k;have m:∃r r1 r2:Int,firV (rdU 0 0 bs)=.tuple #[.int .u64 r,.int .i64 r1,.int .i64 r2]:=by
   unfold firV
   split <;> exact⟨_,_,_,rfl⟩
  obtain⟨r,r1,r2,m⟩:=m;rw[m]at d;refine⟨_,_,_,h.r 0,_,_,_,d,?_⟩;exact wm h he ⟨_,rfl,λ_=>k _ (iy.2 ⟨_,_,h⟩),λf=>by cases f⟩
theorem wt{b:Nat}{s:RS}(h:aA H (crdA b s::F))(hb:aH s.bs)(d:s.bs.length<=1099511627776)
  (k:∀a,aA a (crdA b (dE s).2::F)->K (.int .i64 (dE s).1) a) :
  CF 252 #[.pointer (some ⟨b,0,none⟩)] H K:=by
 refine cM 252 28 ?_;exact nK h hb d λa c=>⟨_,rfl,_,Px,k _ c⟩
theorem wu{b:Nat}{s:RS}(h:aA H (crdA b s::F))
  (k:∀j,aA j (crdA b (dF s)::F)->K (.int .i64 (dF s).e) j) :
  CF 177 #[.pointer (some ⟨b,0,none⟩)] H K:=by
 obtain⟨e,bs⟩:=s;obtain⟨a,c,h⟩:=iy.1 h;dsimp only at h;refine cN 177 18969756 [[]] ?_;refine⟨_,_,_,h.r 0,λt i=>⟨λm=>?_,λm=>?_⟩⟩
 .have d:bs≠[]:=by
   rintro rfl
   cases m
  by_cases f:e=0
  .subst f;have ec:dF ⟨0,bs⟩=⟨10,bs⟩:=by unfold dF;simp[d]
   rw[ec]at k;refine nI h (by decide) λj n=>⟨_,rfl,i _ ?_⟩
   exact⟨_,n.r 0,k _ (iy.2 ⟨_,_,n⟩)⟩
  .have ec:dF ⟨e,bs⟩=⟨e,bs⟩:=by unfold dF;simp[d,f]
   rw[ec]at k;refine wm h f ⟨_,rfl,i _ ?_⟩;exact⟨_,h.r 0,k _ (iy.2 ⟨_,_,h⟩)⟩
 .have f:bs=[]:=by
   cases bs with
   | nil=>rfl
   | cons x r=>exfalso;simp at m
  have ec:dF ⟨e,bs⟩=⟨e,bs⟩:=by unfold dF;simp[f]
  rw[ec]at k;refine i _ ?_;exact⟨_,h.r 0,k _ (iy.2 ⟨_,_,h⟩)⟩
end
theorem Py{l a:List aE}(h:l.Perm a):star l=star a:=by
 induction h with
 | nil=>rfl
 | cons x _ ih=>simp only[star,ih]
 | swap x y l=>simp only[star];rw[vF]
 | trans _ _ ih1 ih2=>exact ih1.trans ih2
section
variable {κ α:Type}[DecidableEq κ]
theorem Pz{x:κ}{v:α}{m:List (κ×α)}(c:(aG m).Nodup)(h:aJ x m=some v):m.Perm ((x,v)::bT x m):=by
 obtain⟨i,a,_⟩:=getElem?_of_mlook h;have b:=Eo (u:=v) c a;have d:m.set i (x,v)=m:=by
  apply WO;intro j;rw[List.getElem?_set]
  split
  .rename_i e;subst e;rw[a,V1 (List.getElem?_eq_some_iff.1 a).1]
  .rfl
 rw[d]at b;exact b
end
structure Fy where
 a:KQ
 c:Nat
 bs:List Int
def Fy.z:Fy:=⟨none,0,[]⟩
abbrev dV(y:Fy):Value:=.slice y.a y.bs.length y.c
abbrev YM:=List (Int×Fy)
def rowY(y:Fy):aE:=slA 5 1 y.a y.bs.length y.c (y.bs.map U8)
def rowsY(m:YM):aE:=star (m.map λp=>rowY p.2)
theorem P0{m m':YM}(h:m.Perm m'):rowsY m=rowsY m':=Py (h.map _)
theorem Gs(k:Int)(y:Fy)(m:YM):rowsY ((k,y)::m)=rowY y*rowsY m:=rfl
theorem zv{H:aD}{L:List aE}:aA H (emp::L)↔aA H L:=by unfold aA;simp only[star];rw[oO]
theorem aA.rowsY_out{H:aD}{L:List aE}{m:YM}{k:Int}{y:Fy}(a:(aG m).Nodup)(b:aJ k m=some y):aA H (rowsY m::L)↔aA H (rowY y::rowsY (bT k m)::L):=by
 rw[P0 (Pz a b),Gs];exact gu
theorem aA.rowsY_in{H:aD}{L:List aE}{m:YM}{k:Int}{y:Fy}:aA H (rowsY (mset k y m)::L)↔aA H (rowY y::rowsY (bT k m)::L):=by
 unfold mset;rw[Gs];exact gu
abbrev DR:=List (Int×Int)
def bytesOf(f:Int)(rows:DR):List Int:=(rows.filter λr=>decide (r.1=f)).map Prod.snd
theorem qw(f:Int)(a b:DR):bytesOf f (a++b)=bytesOf f a++bytesOf f b:=by simp[bytesOf]
theorem zw(f:Int)(bs:List Int):bytesOf f (bs.map λb=>(f,b))=bs:=by
 induction bs with
 | nil=>rfl
 | cons b r ih=>simp only[bytesOf,Wa,Wk,decide_true,if_true]at ih ⊢;rw[ih]
theorem zz{f g:Int}(h:f≠g)(bs:List Int):bytesOf f (bs.map λb=>(g,b))=[]:=by
 induction bs with
 | nil=>rfl
 | cons b r ih=>
  have:¬g=f:=λe=>h e.symm
  simp[bytesOf,Wk,this]at ih ⊢
  try exact ih
theorem P3{f:Int}{t:DR}(h:∀r∈t,r.1=f):bytesOf f t=t.map Prod.snd:=by
 unfold bytesOf;rw[Yv.2 λr a=>by simp[h r a]]
theorem P4{f g:Int}{t:DR}(h:∀r∈t,r.1=f)(b:g≠f):bytesOf g t=[]:=by
 unfold bytesOf;rw[WM.2 λr a=>by simp[h r a];exact λe=>b e.symm]
 rfl
theorem P5(f g:Int)(rows:DR):bytesOf g (rows.filter λr=>decide (r.1≠f))=if g=f then [] else bytesOf g rows:=by
 unfold bytesOf;rw[List.filter_filter]
 split
 .rename_i e;subst e;rw[WM.2 λr _=>by simp];rfl
 .rename_i e;congr 1;apply Yz;intro r _
  by_cases h:r.1=g
  .simp [h,e]
  .simp [h]
theorem tW(f:Int)(rows:DR):(bytesOf f rows).length<=rows.length:=by
 unfold bytesOf;rw[VH];exact Y0 _ _
theorem Gt{f:Int}{rows:DR}:bytesOf f rows≠[]↔f∈rows.map Prod.fst:=by
 unfold bytesOf;rw[Ne,List.map_eq_nil_iff,WM]
 constructor
 .intro h
  rcases Classical.em (f∈rows.map Prod.fst) with a|a
  .exact a
  .exact V2 (λr b=>by simp;exact λe=>a (VB.2 ⟨r,b,e⟩)) h
 .intro h a;obtain⟨r,b,e⟩:=VB.1 h;have:=a r b;simp[e]at this
structure FOk(m:YM)(rows:DR):Prop where
 nd:(aG m).Nodup
 is:∀f,(aJ f m).map Fy.bs=if bytesOf f rows=[] then none else some (bytesOf f rows)
theorem FOk.new:FOk [] []:=⟨by simp,λf=>by simp[bytesOf,aJ]⟩
theorem FOk.get{m:YM}{rows:DR}(h:FOk m rows)(f:Int):((aJ f m).getD Fy.z).bs=bytesOf f rows:=by
 have:=h.is f
 cases hm:aJ f m with
 | none=>
  rw[hm]at this
  split at this
  .rename_i e;rw[e];rfl
  .cases this
 | some y=>
  rw[hm]at this
  split at this
  .cases this
  .exact Option.some.inj this
theorem FOk.some{m:YM}{rows:DR}(h:FOk m rows){f:Int}{y:Fy}(hm:aJ f m=some y):y.bs=bytesOf f rows/\y.bs≠[]:=by
 have:=h.is f;rw[hm]at this
 split at this
 .cases this
 .rename_i a;have e:=Option.some.inj this;exact⟨e,by rw[e];exact a⟩
theorem FOk.none{m:YM}{rows:DR}(h:FOk m rows){f:Int}:aJ f m=none↔bytesOf f rows=[]:=by
 have:=h.is f
 constructor
 .intro hm;rw[hm]at this
  split at this
  .assumption
  .cases this
 .intro hb;rw[V1 hb]at this;exact Option.map_eq_none_iff.1 this
theorem FOk.keys{m:YM}{rows:DR}(h:FOk m rows){f:Int}:f∈aG m↔f∈rows.map Prod.fst:=by
 rw[<-Gt,Ne,<-h.none,fw,Classical.not_not]
theorem FOk.append{m:YM}{rows:DR}(h:FOk m rows){f:Int}{bs:List Int}{y:Fy}(hb:bs≠[])(a:y.bs=bytesOf f rows++bs):FOk (mset f y m) (rows++bs.map λb=>(f,b)):=by
 refine⟨oP h.nd,λg=>?_⟩
 rw[lD,qw]
 by_cases e:g=f
 .subst e;rw[V1 rfl,zw,V0 (by simp[hb])];simp[a]
 .rw [V0 e,zz e,Wc];exact h.is g
theorem FOk.cut{m:YM}{a t:DR}(h:FOk m (a++t)){f:Int}(d:∀r∈t,r.1=f) :
  (bytesOf f a=[]->FOk (bT f m) a)/\(∀y,y.bs=bytesOf f a->bytesOf f a≠[]->FOk (mset f y m) a):=by
 have b:∀g,g≠f->bytesOf g (a++t)=bytesOf g a:=λg i=>by rw[qw,P4 d i,Wc]
 constructor
 .intro hb;refine⟨rE h.nd,λg=>?_⟩
  rw[vO]
  by_cases e:g=f
  .subst e;rw[V1 rfl,V1 hb];rfl
  .rw [V0 e,<-b g e];exact h.is g
 .intro y c hb;refine⟨oP h.nd,λg=>?_⟩
  rw[lD]
  by_cases e:g=f
  .subst e;rw[V1 rfl,V0 hb,<-c];rfl
  .rw [V0 e,<-b g e];exact h.is g
theorem FOk.delete{m:YM}{rows:DR}(h:FOk m rows)(f:Int):FOk (bT f m) (rows.filter λr=>decide (r.1≠f)):=by
 refine⟨rE h.nd,λg=>?_⟩
 rw[vO,P5]
 by_cases e:g=f
 .rw [V1 e,V1 e,V1 rfl];rfl
 .rw [V0 e,V0 e];exact h.is g
theorem zA:∀(rows:DR) (ks:List Int),ks.Nodup->(∀r∈rows,r.1∈ks)->(ks.map λk=>(bytesOf k rows).length).sum=rows.length
 | [],ks,_,_=>by
  have:∀l:List Int,(l.map λk=>(bytesOf k []).length).sum=0:=by
   intro l
   induction l with
   | nil=>rfl
   | cons k r a=>rw[Wa,WW,a];rfl
  exact this ks
 | x::rows,ks,hn,h=>by
  have a:=zA rows ks hn (λr d=>h r (VL _ d))
  have f:=h x VM;have key:∀l:List Int,l.Nodup->(l.map λk=>(bytesOf k (x::rows)).length).sum=(l.map λk=>(bytesOf k rows).length).sum+(if x.1∈l then 1 else 0):=by
   intro l
   induction l with
   | nil=>intro _;rfl
   | cons k r ih2=>
    intro c;rw[WQ]at c;have i2:=ih2 c.2;simp only[Wa,WW]
    by_cases e:x.1=k
    .have b:¬x.1∈r:=by rw[e];exact c.1
     rw[V0 b]at i2;have:(bytesOf k (x::rows)).length=(bytesOf k rows).length+1:=by simp[bytesOf,Wk,e]
     rw[this,i2,V1 (by rw[e];exact VM)];omega
    .have:(bytesOf k (x::rows)).length=(bytesOf k rows).length:=by simp[bytesOf,Wk,e]
     rw[this,i2]
     by_cases e2:x.1∈r
     .rw [V1 e2,V1 (VL _ e2)];omega
     .rw [V0 e2,V0 (by simp[e,e2])];omega
  rw[key ks hn,a,V1 f,V9]
theorem FOk.size{m:YM}{rows:DR}(h:FOk m rows):(m.map λp=>p.2.bs.length).sum=rows.length:=by
 have c:=zA rows (aG m) h.nd (λr a=>h.keys.2 (VB.2 ⟨r,a,rfl⟩))
 rw[<-c];unfold aG;rw[Wr];congr 1;apply WS;intro p b;have:=h.some (nA h.nd (show (p.1,p.2)∈m from b));simp only[Function.comp_def];rw[this.1]
theorem FOk.le{m:YM}{rows:DR}(h:FOk m rows):m.length<=rows.length:=by
 rw[<-h.size];have:∀l:YM,(∀p∈l,p.2.bs≠[])->l.length<=(l.map λp=>p.2.bs.length).sum:=by
  intro l
  induction l with
  | nil=>intro _;simp
  | cons p r ih=>
   intro a;have e:=ih λq b=>a q (VL _ b)
   have d:=Yu.2 (a p VM);simp only[V9,Wa,WW];omega
 exact this m λp c=>(h.some (nA h.nd (show (p.1,p.2)∈m from c))).2
def om:List Int->List Int
 | []=>[]
 | a::r=>if a∈r then om r else a::om r
theorem zB{x:Int}:∀{l:List Int},x∈om l↔x∈l
 | []=>Iff.rfl
 | a::r=>by
  have b:=zB (x:=x) (l:=r);unfold om
  split
  .rename_i h;rw[b,VJ];exact⟨Or.inr,λc=>c.elim (λe=>by rw[e];exact h) id⟩
  .rw [VJ,VJ,b]
theorem zC:∀{l:List Int},(om l).Nodup
 | []=>List.nodup_nil
 | a::r=>by
  unfold om
  split
  .exact zC
  .rename_i h;rw[WQ];exact⟨λhm=>h (zB.1 hm),zC⟩
def bB(rows:DR):List Int:=sortI (om (rows.map Prod.fst))
theorem zD:∀{l r:List Int},l.Pairwise (·< ·)->r.Pairwise (·< ·)->(∀x,x∈l↔x∈r)->l=r
 | [],[],_,_,_=>rfl
 | [],b::r,_,_,h=>V2 ((h b).2 VM) (by simp)
 | a::l,[],_,_,h=>V2 ((h a).1 VM) (by simp)
 | a::l,b::r,hl,hr,h=>by
  rw[W0]at hl hr;have e:a=b:=by
   rcases VJ.1 ((h a).1 VM) with e|f
   .exact e
   .rcases VJ.1 ((h b).2 VM) with e|c
    .exact e.symm
    .have:=hl.1 _ c;have:=hr.1 _ f;omega
  subst e;rw[zD hl.2 hr.2 λx=>?_]
  constructor
  .intro d
   rcases VJ.1 ((h x).1 (VL _ d)) with e|c
   .have:=hl.1 _ d;omega
   .exact c
  .intro d
   rcases VJ.1 ((h x).2 (VL _ d)) with e|c
   .have:=hr.1 _ d;omega
   .exact c
theorem Gu{l:List Int}(h:l.Nodup):(sortI l).Pairwise (·< ·):=by
 have b:=Er l;have c:(sortI l).Nodup:=(ql l).nodup_iff.2 h;exact (b.and c).imp λa=>by have:=a.1;have:=a.2;omega
theorem oZ(rows:DR):(bB rows).Pairwise (·< ·):=Gu zC
theorem jz{rows:DR}{f:Int}:f∈bB rows↔f∈rows.map Prod.fst:=by
 unfold bB;rw[(ql _).mem_iff,zB]
theorem FOk.files{m:YM}{rows:DR}(h:FOk m rows):sortI (aG m)=bB rows:=
 zD (Gu h.nd) (oZ rows) λx=>by rw[(ql _).mem_iff,jz];exact h.keys
structure Pc where
 file:Int
 size:Int
abbrev lK(p:Pc):Os:=[.int .i64 p.file,.int .i64 p.size]
theorem oo(p:Pc):(lK p).length=2:=rfl
def gM(pend:List Pc):List Int:=pend.flatMap λp=>List.replicate p.size.toNat p.file
theorem tX(a b:List Pc):gM (a++b)=gM a++gM b:=by simp[gM]
theorem wv(p:Pc):gM [p]=List.replicate p.size.toNat p.file:=by simp[gM]
def cD(pend:List Pc):Int:=(pend.map Pc.size).sum
theorem pe:∀{pend:List Pc},(∀p∈pend,1<=p.size)->((gM pend).length:Int)=cD pend
 | [],_=>rfl
 | p::r,h=>by
  have b:=pe (pend:=r) λq a=>h q (VL _ a)
  have c:=h p VM;simp only[gM,cD,Wb,V3,List.length_replicate,Wa,WW]at b ⊢;omega
theorem zE:∀{pend:List Pc},(∀p∈pend,1<=p.size)->pend.length<=(gM pend).length
 | [],_=>VA _
 | p::r,h=>by
  have b:=zE (pend:=r) λq a=>h q (VL _ a)
  have c:=h p VM;simp only[gM,Wb,V3,List.length_replicate,V9]at b ⊢;omega
structure DOk(m:YM)(pend:List Pc)(rows:DR)(syn:Nat):Prop where
 f:FOk m rows
 sle:syn<=rows.length
 p:gM pend=(rows.drop syn).map Prod.fst
 pos:∀q∈pend,1<=q.size
 keys:∀r∈rows,0<=r.1/\r.1<=2147483647
theorem DOk.new:DOk [] [] [] 0:=⟨FOk.new,VA _,rfl,λ_ h=>(by cases h),λ_ h=>(by cases h)⟩
theorem DOk.len{m:YM}{pend:List Pc}{rows:DR}{syn:Nat}(h:DOk m pend rows syn):cD pend=(rows.length:Int)-syn:=by
 have a:=pe h.pos;rw[h.p,VH,VP]at a;have:=h.sle;omega
theorem DOk.ple{m:YM}{pend:List Pc}{rows:DR}{syn:Nat}(h:DOk m pend rows syn):pend.length<=rows.length:=by
 have a:=zE h.pos;rw[h.p,VH,VP]at a;omega
def zabs(v:Int):Nat:=v.natAbs
def j0(a b:Int):Int×Int:=if aF (a+b) then (a+b,0) else (0,12)
def signS(n:Nat)(neg:Bool):Int×Int:=
 if neg then (if 9223372036854775808<n then (0,12) else (-(n:Int),0)) else (if 9223372036854775807<n then (0,12) else ((n:Int),0))
def pf(a b c:Int)(up:Bool):Int×Int:=
 if c<1 then (0,11) else
 if c.toNat<=zabs a*zabs b/18446744073709551616 then (0,12) else
 let q:=zabs a*zabs b/c.toNat
 if 9223372036854775808<q then (0,12) else
 let neg:=!(decide (a<0) == decide (b<0))
 signS (if !decide (zabs a*zabs b%c.toNat=0) && !(neg == up) then q+1 else q) neg
abbrev gy(rho:Int):Prop:=0<=rho/\rho<=100000
def lowS(x rho:Int):Int×Int:=
 if x < -4611686018427387904\/4611686018427387904<x\/¬gy rho then (0,11) else
 if 0<x then (if 1<(pf (x-1) 1000000 (1000000+rho) true).1 then (pf (x-1) 1000000 (1000000+rho) true).1 else 1,(pf (x-1) 1000000 (1000000+rho) true).2)
 else (i64.wrap (0-(pf (1-x) 1000000 (1000000-rho) false).1),(pf (1-x) 1000000 (1000000-rho) false).2)
def pg(x rho:Int):Int×Int:=
 if x < -4611686018427387904\/4611686018427387904<x then (0,11) else (i64.wrap (0-(lowS (-x) rho).1),(lowS (-x) rho).2)
theorem highS_wf(x rho:Int):aF (pg x rho).1:=by
 unfold pg
 split
 .simp [aF]
 .exact qo _
structure Gp where
 lo:Int
 hi:Int
deriving DecidableEq
def Gp.z:Gp:=⟨0,0⟩
abbrev jR(g:Gp):Os:=[.int .i64 g.lo,.int .i64 g.hi]
abbrev jS(g:Gp):Value:=.agg #[.int .i64 g.lo,.int .i64 g.hi]
abbrev Gp.ok(g:Gp):Prop:=g.lo<=g.hi
def meet2(a b:Gp):Gp:=⟨if b.lo>a.lo then b.lo else a.lo,if b.hi<a.hi then b.hi else a.hi⟩
def mD:Gp->List Gp->Gp×Int
 | s,[]=>if s.ok then (s,0) else (Gp.z,13)
 | s,g::r=>if g.ok then mD (meet2 s g) r else (Gp.z,10)
def kS(l:List Gp):Gp×Int:=mD ⟨-9223372036854775808,9223372036854775807⟩ l
theorem ww(g:Gp):(jR g).length=2:=rfl
def wx(g:Gp):Int:=if g.ok then u64.wrap ((u64.wrap g.hi)-(u64.wrap g.lo)) else 0
def midS(g:Gp):Int:=if g.ok then i64.wrap ((aX .and .i64 g.lo g.hi)+(Int.fdiv (aX .xor .i64 g.lo g.hi) (2^(min (Int.toNat 1) (i64.bits))))) else 0
section
variable {F L:List aE}{H:aD}{K:KE}
theorem Gv{a b:Int}(d:aF a)(hb:aF b):bV Tryz.prog 235 #[aB a,aB b] H (.tuple #[aB (j0 a b).1,aB (j0 a b).2]):=by
 refine OD ?_;unfold ID;rw[add_over d hb];unfold j0;refine⟨λc=>?_,λc=>?_⟩
 .have:¬aF (a+b):=by simpa using c
  rw[V0 this];exact⟨rfl,rfl⟩
 .have:aF (a+b):=by simpa using c
  rw[V1 this];have e:i64.wrap (a+b)=a+b:=aK (by unfold aF at this;omega) (by unfold aF at this;omega);rw[e];exact⟨rfl,rfl⟩
theorem Gw{v:Int}(h:aF v):bV Tryz.prog 330 #[aB v] H (.int .u64 (zabs v:Nat)):=by
 refine Oj ?_;unfold zabs;unfold aF at h;refine⟨λa=>⟨?_,rfl⟩,λa=>⟨?_,rfl⟩⟩
 .simp only[V6]at a;rw[df,df];congr 1;omega
 .simp only[V8]at a;rw[df];congr 1;omega
theorem Gx{n:Nat}{neg:Bool}(h:n<18446744073709551616):bV Tryz.prog 332 #[.int .u64 (n:Nat),.bool neg] H (.tuple #[aB (signS n neg).1,aB (signS n neg).2]):=by
 refine cM 332 4852664796 ?_;unfold signS
 cases neg
 .refine⟨λb=>by simp at b,λ_=>⟨λa=>?_,λa=>?_⟩⟩
  .have:9223372036854775807<n:=by simp only[V6]at a;omega
   rw[V0 Bool.false_ne_true,V1 this];exact⟨rfl,rfl⟩
  .have:¬9223372036854775807<n:=by simp only[V8]at a;omega
   conv=>whnf
   rw[V0 Bool.false_ne_true,V0 this,aK];exact⟨rfl,rfl⟩
 .refine⟨λ_=>⟨λa=>?_,λa=>?_⟩,λb=>by simp at b⟩
  .have:9223372036854775808<n:=by simp only[V6]at a;omega
   rw[V1 rfl,V1 this];exact⟨rfl,rfl⟩
  .have:¬9223372036854775808<n:=by simp only[V8]at a;omega
   rw[V1 rfl,V0 this];have e:i64.wrap (u64.wrap (0-(n:Int)))=-(n:Int):=by rw[df,jM];omega
   conv=>whnf
   rw[e];exact⟨rfl,rfl⟩
theorem P6{x y:Nat}(c:x<18446744073709551616)(d:y<18446744073709551616) :
  bV Tryz.prog 329 #[.int .u64 (x:Nat),.int .u64 (y:Nat)] H (.tuple #[.int .u64 ((x*y/18446744073709551616:Nat):Int),.int .u64 ((x*y%18446744073709551616:Nat):Int)]):=by
 refine Ol ?_;refine⟨by decide,by decide,by decide,by decide,by decide,?_⟩;have hm:=mul64_arith (x:Int) (y:Int) (by omega) (by omega) (by omega) (by omega);have key:∀a:Nat,u64.wrap (a:Int)=((a%18446744073709551616:Nat):Int):=u64m;have b:∀a:Nat,aX .and .u64 ((a%18446744073709551616:Nat):Int) 4294967295=((a%18446744073709551616%4294967296:Nat):Int):=λa=>tF (W6 _ (by decide))
 rw[tF c,tF d];simp only[vX,mulNN,addNN,key,b,and_true];show Value.tuple #[.int .u64 _,.int .u64 _]=_;congr 4
theorem P7{s:Fa}{i:Nat}(h:i<s.size):bAt s i=((s[i]'h).toNat:Int):=by
 unfold bAt;rw[Array.getElem?_eq_getElem (show i<s.data.size from h)];rfl
theorem P8{n:Nat}(h:n<18446744073709551616):bitLen n<=64:=by
 unfold bitLen
 split
 .omega
 .rename_i h0;have:=(Nat.log2_lt h0).2 (show n<2^64 from h);omega
theorem Gy{x:Nat}(h:x<18446744073709551616):bV Tryz.prog 315 #[.int .u64 (x:Nat)] H (aB (bitLen x:Nat)):=by
 refine On ?_;have last:∀(y:Nat) (n:Nat),y<256->bitLen x=n+bitLen y->n<=64->mw.r1 (λu c=>u=aB (bitLen x:Nat)/\c=H) (y:Int) (n:Int) H:=by
  intro y n f hb k;unfold mw.r1;have m:u8.wrap (y:Int)=(y:Int):=u8w (by omega) (by omega);have s:=bitLen_le8 y f;rw[m];refine⟨⟨by omega,?_⟩,?_,rfl⟩
  .show (y:Int)<256;omega
  .rw [show bAt _ ((y:Int)).toNat=((bitLen y:Nat):Int) from (P7 (i:=y) (by show y<256;omega)).trans (congrArg Nat.cast (len8tab_get y (by show y<256;omega)))];rw[aK (x:=((bitLen y:Nat):Int)),aK,hb];congr 1
 have s2:∀(y:Nat) (n:Nat),y<65536->bitLen x=n+bitLen y->n<=56->mw.r2 (λu c=>u=aB (bitLen x:Nat)/\c=H) (y:Int) (n:Int) H:=by
  intro y n f hb k;unfold mw.r2;refine λj b=>⟨λa=>⟨by decide,?_⟩,λa=>b _ _ _ (last y n (by simp only[V8]at a;omega) hb (by omega))⟩
  simp only[V6]at a;have e:Int.fdiv (y:Int) (2^(min (Int.toNat 8) (u64.bits)))=((y/256:Nat):Int):=rG y 8;have d:i64.wrap ((n:Int)+8)=((n+8:Nat):Int):=by rw[aK];omega
  rw[e,d];refine b _ _ _ (last (y/256) (n+8) (by omega) ?_ (by omega));have:=bitLen_shift y 8 (by simp only[Nat.reducePow];omega);rw[hb,this];simp only[Nat.reducePow];omega
 have s3:∀(y:Nat) (n:Nat),y<4294967296->bitLen x=n+bitLen y->n<=32->mw.r3 (λu c=>u=aB (bitLen x:Nat)/\c=H) (y:Int) (n:Int) H:=by
  intro y n f hb k;unfold mw.r3;refine λj b=>⟨λa=>⟨by decide,?_⟩,λa=>b _ _ _ (s2 y n (by simp only[V8]at a;omega) hb (by omega))⟩
  simp only[V6]at a;have e:Int.fdiv (y:Int) (2^(min (Int.toNat 16) (u64.bits)))=((y/65536:Nat):Int):=rG y 16;have d:i64.wrap ((n:Int)+16)=((n+16:Nat):Int):=by rw[aK];omega
  rw[e,d];refine b _ _ _ (s2 (y/65536) (n+16) (by omega) ?_ (by omega));have:=bitLen_shift y 16 (by simp only[Nat.reducePow];omega);rw[hb,this];simp only[Nat.reducePow];omega
 refine λj b=>⟨λa=>⟨by decide,?_⟩,λa=>b _ _ _ (s3 x 0 (by simp only[V8]at a;omega) (by omega) (by omega))⟩
 simp only[V6]at a;rw[vX];refine b _ _ _ (s3 (x/4294967296) 32 (by omega) ?_ (by omega));have:=bitLen_shift x 32 (by simp only[Nat.reducePow];omega);rw[this]
theorem P9{x:Nat}(h:x<18446744073709551616):bV Tryz.prog 364 #[.int .u64 (x:Nat)] H (aB ((64-bitLen x:Nat):Int)):=by
 refine Ob ?_;have a:=P8 h;refine⟨_,Gy h,?_,rfl⟩;rw[aK];congr 1;omega
end
abbrev aC:=Value.int .i64
theorem mt98:kA Tryz.prog 123 3 43 dV Fy.z:=og Tryz.underlying123 (by kernel_rfl)
theorem ko3:mj Tryz.prog 3 aC:=vP Tryz.underlying3
theorem rW:SlT Tryz.prog 43 5 1 1:=iP (by kernel_rfl)
theorem slb99:SlT Tryz.prog 120 122 2 16:=iP (by kernel_rfl)
theorem slb44:SlT Tryz.prog 377 3 1 8:=iP (by kernel_rfl)
structure DS where
 fb:Nat
 pa:KQ
 pc:Nat
 pend:List Pc
 m:YM
abbrev diskC(db:Nat)(s:DS):aE:=cellsA db [.map (some s.fb),.slice s.pa s.pend.length s.pc] 125
abbrev j4(s:DS):aE:=mapA aC dV s.fb s.m
abbrev jk(s:DS):aE:=slA 122 2 s.pa s.pend.length s.pc (flat lK s.pend)
def diskX(db:Nat)(rows:DR)(syn:Nat):aE:=exS λs:DS=>star [pur (DOk s.m s.pend rows syn),diskC db s,j4 s,rowsY s.m,jk s]
section
variable {db:Nat}{rows:DR}{syn:Nat}{F L:List aE}{H:aD}{K:KE}
theorem qx(h:aA H (diskX db rows syn::F)):∃s:DS,DOk s.m s.pend rows syn/\aA H (diskC db s::j4 s::rowsY s.m::jk s::F):=by
 obtain⟨s,h⟩:=cJ.1 h;obtain⟨ok,h⟩:=aA.consP h.open;exact⟨s,ok,h⟩
theorem mE(s:DS)(ok:DOk s.m s.pend rows syn)(h:aA H (diskC db s::j4 s::rowsY s.m::jk s::F)):aA H (diskX db rows syn::F):=
 cJ.2 ⟨s,aA.shut [_,_,_,_,_] (aA.pur h ok)⟩
theorem New_spec(h:aA H F)(k:∀db a,aA a (diskX db [] 0::F)->K (.pointer (some ⟨db,0,none⟩)) a):CF 30 #[] H K:=by
 refine cM 30 28 ?_;refine h.alm aC dV λfb _ h=>h.al λdb _ h=>k db _ ?_
 have h:=(h.sl_nil 122 2).o [1,2,0] 3;refine mE ⟨fb,none,0,[],[]⟩ DOk.new ?_;have b:aA _ (emp::diskC db ⟨fb,none,0,[],[]⟩::j4 ⟨fb,none,0,[],[]⟩::jk ⟨fb,none,0,[],[]⟩::F):=zv.2 h;exact b.o [1,2,0,3] 4
theorem PB(h:aA H (diskX db rows syn::F))(k:∀a,aA a (diskX db rows rows.length::F)->K (.tuple #[]) a):CF 92 #[.pointer (some ⟨db,0,none⟩)] H K:=by
 obtain⟨s,ok,h⟩:=qx h;refine cM 92 4 ?_;refine h.st 0 rfl rfl λ_ h=>k _ ?_
 have h:=(h.sl_nil 122 2).o [1,2,3,0] 5;exact mE ⟨s.fb,none,0,[],s.m⟩ ⟨ok.f,VA _,by simp[gM],λ_ b=>(by cases b),ok.keys⟩ h
theorem PC{f:Int}(v:rows.length<=1099511627776)(h:aA H (diskX db rows syn::F))
  (k1:bytesOf f rows=[]->∀b,aA b (diskX db rows syn::F)->K (.tuple #[.slice none 0 0,aC 23]) b)
  (k2:bytesOf f rows≠[]->∀a c b,aA b (slA 5 1 a (bytesOf f rows).length c ((bytesOf f rows).map U8)::diskX db rows syn::F)->K (.tuple #[.slice a (bytesOf f rows).length c,aC 0]) b) :
  CF 192 #[.pointer (some ⟨db,0,none⟩),aC f] H K:=by
 obtain⟨s,ok,h⟩:=qx h;refine cM 192 4572 ?_;have d:=h.mp_get mt98 ko3 1 rfl (x:=f);refine⟨_,h.r 0,?_⟩
 cases hm:aJ f s.m with
 | none=>
  rw[hm]at d;refine⟨_,_,_,_,d,λ_=>?_,λk=>(by cases k)⟩
  exact k1 (ok.f.none.1 hm) _ (mE s ok h)
 | some y=>
  rw[hm]at d;obtain⟨e,j⟩:=ok.f.some hm;refine⟨_,_,_,_,d,λk=>(by cases k),λ_=>?_⟩
  have t:=(aA.rowsY_out ok.f.nd hm).1 (h.o [2,0,1,3] 4);refine zo t (λH h=>h.sl_rd 0 rfl) (by rw[Option.getD_some,e];have:=tW f rows;omega) λu w b n=>⟨_,_,_,rfl,?_⟩
  have i:=(aA.rowsY_out ok.f.nd hm).2 (n.o [1,2,3,4,5,0] 6);simp only[Option.getD_some]at i ⊢;rw[e]at i ⊢;exact k2 (by rw[<-e];exact j) _ _ _ ((mE (F:=_::F) s ok (i.o [1,2,0,3,4] 5)).o [1,0] 2)
theorem PD{f:Int}(h:aA H (diskX db rows syn::F))
  (k1:bytesOf f rows=[]->∀a,aA a (diskX db rows syn::F)->K (aC 23) a)
  (k2:bytesOf f rows≠[]->syn<rows.length->∀a,aA a (diskX db rows syn::F)->K (aC 21) a)
  (k3:bytesOf f rows≠[]->¬syn<rows.length->∀a,aA a (diskX db (rows.filter λr=>decide (r.1≠f)) (rows.filter λr=>decide (r.1≠f)).length::F)->K (aC 0) a) :
  CF 189 #[.pointer (some ⟨db,0,none⟩),aC f] H K:=by
 obtain⟨s,ok,h⟩:=qx h;refine cM 189 18988316 ?_;have d:=h.mp_get mt98 ko3 1 rfl (x:=f);refine⟨_,h.r 0,?_⟩;have b:=ok.len
 cases hm:aJ f s.m with
 | none=>
  rw[hm]at d;refine⟨_,_,_,_,d,λ_=>?_,λj=>(by cases j)⟩
  exact k1 (ok.f.none.1 hm) _ (mE s ok h)
 | some y=>
  rw[hm]at d;have c:bytesOf f rows≠[]:=λe=>by rw[ok.f.none.2 e]at hm;cases hm
  refine⟨_,_,_,_,d,λj=>(by cases j),λ_=>⟨_,_,_,h.r 0,λk=>?_,λk=>?_⟩⟩
  .refine k2 c ?_ _ (mE s ok h);have i:0<s.pend.length:=by have:=V4 k;omega
   have n:=zE ok.pos;rw[ok.p,VH,VP]at n;omega
  .have i:s.pend=[]:=by
    have:s.pend.length=0:=by have:=V5 k;omega
    exact WH.1 this
   have hs:¬syn<rows.length:=by
    rw[i]at b;simp only[cD,Yh,List.sum_nil]at b;omega
   refine⟨_,h.r 0,h.mp_delete mt98 ko3 1 rfl λa h=>k3 c hs _ ?_⟩
   have u:=((aA.rowsY_out ok.f.nd hm).1 (h.o [2,0,1,3] 4)).o [2,3,1,4] 5;refine mE ⟨s.fb,s.pa,s.pc,s.pend,bT f s.m⟩ ⟨ok.f.delete f,VA _,?_,ok.pos,λr t=>ok.keys r (WA.1 t).1⟩ u
   rw[i,W1];rfl
theorem Gz(w:rows.length<=1099511627776)(h:aA H (diskX db rows syn::F))(k:∀d,aA d (diskX db rows syn::F)->K (aC ((rows.length:Int)-syn)) d):CF 27 #[.pointer (some ⟨db,0,none⟩)] H K:=by
 obtain⟨s,ok,h⟩:=qx h;refine cN 27 0x1121561239925144c [[(3,sI),(11,sI)]] ?_;have c:=ok.len;have u:=ok.ple;have b:∀j,0<=cD (s.pend.take j)/\cD (s.pend.take j)<=cD s.pend:=by
  intro j;have e:cD s.pend=cD (s.pend.take j)+cD (s.pend.drop j):=by
   unfold cD;rw[<-List.sum_append,<-VT,Wt]
  have p1:=pe (pend:=s.pend.take j) λq f=>ok.pos q (Ww f)
  have p2:=pe (pend:=s.pend.drop j) λq f=>ok.pos q (WE f)
  omega
 refine⟨_,_,_,h.r 0,λsum t d=>∃j:Nat,t=j/\j<=s.pend.length/\sum=cD (s.pend.take j)/\aA d (diskC db s::j4 s::rowsY s.m::jk s::F),λ_ t _=>s.pend.length-t.toNat,
  ⟨0,rfl,VX _,rfl,h⟩,?_⟩
 rintro sum t y ⟨j,rfl,A,rfl,h⟩;refine⟨λi=>?_,λi=>?_⟩
 .have a:j<s.pend.length:=by have:=V4 i;omega
  have n:=h.sl_rd 3 rfl;refine⟨⟨by omega,by omega⟩,_,_,n.some oo (by omega) a,_,_,n.els oo a,h.al λb1 _ h=>h.st 0 rfl rfl λ_ h=>⟨_,h.r 0,?_⟩⟩
  have e1:cD (s.pend.take (j+1))=cD (s.pend.take j)+s.pend[j].size:=by
   unfold cD;rw[Wj a,VT,List.sum_append];simp
  have:=b (j+1);have:=b j;have v:=ok.pos _ (VF a)
  conv=>whnf
  rw[aK (x:=(j:Int)+1),aK (x:=cD (s.pend.take j)+s.pend[j].size),<-e1];exact⟨⟨j+1,rfl,a,rfl,h.tl⟩,by simp only[VD];omega⟩
 .obtain rfl:j=s.pend.length:=by have:=V5 i;omega
  rw[Wf,c];exact k _ (mE s ok h)
end
def jl(f:Int)(parts:List Fy):DR:=(parts.flatMap Fy.bs).map λb=>(f,b)
theorem G0(f:Int)(a b:List Fy):jl f (a++b)=jl f a++jl f b:=by simp[jl]
theorem G1(f:Int)(p:Fy):jl f [p]=p.bs.map λb=>(f,b):=by simp[jl]
theorem PE(f:Int)(bs:List Int):(bs.map λb=>(f,b)).map Prod.fst=List.replicate bs.length f:=by
 induction bs with
 | nil=>rfl
 | cons b r ih=>simp only[Wa,V9,YB,ih]
section
variable {db:Nat}{rows:DR}{syn:Nat}{F L:List aE}{H:aD}{K:KE}
theorem PF{s:DS}{f n:Int}(Q:1<=n)(U:n<=1099511627776)(c:∀q∈s.pend,1<=q.size)(T:cD s.pend<=1099511627776)(V:s.pend.length<=1099511627776)(h:aA H (diskC db s::jk s::F))
  (k:∀(pa:KQ) (pc:Nat) (pend:List Pc) G,gM pend=gM s.pend++List.replicate n.toNat f->(∀q∈pend,1<=q.size)->
   aA G (diskC db ⟨s.fb,pa,pc,pend,s.m⟩::jk ⟨s.fb,pa,pc,pend,s.m⟩::F)->K (.tuple #[]) G) :
  CF 257 #[.pointer (some ⟨db,0,none⟩),aC f,aC n] H K:=by
 refine O9 ?_;have push:∀H,aA H (diskC db s::jk s::F)->∀(b3:Nat) (H_1:aD),b3=H.size->H_1=H.push (.cells #[aC f,aC n] 122)->
   cB Tryz.prog (Builtin.append_ #[120,120] 120 #[.slice s.pa s.pend.length s.pc,.slice (some ⟨b3,0,none⟩) 1 1]) H_1 λu E=>
    ∃(M:KQ) (sn sc:Nat),u=.slice M sn sc/\eV E db (0+1) [.slice M sn sc]/\∀C:aD,C=fM E db (0+1) [.slice M sn sc]->K (.tuple #[]) C:=by
  intro H h;refine h.al λb3 _ h=>?_
  refine aA.append (m:=1) (ws:=lK ⟨f,n⟩) slb99 h 2 rfl (h.ce_rd 0 rfl) rfl rfl (by omega) (by omega) λa2 c2 W h=>⟨_,_,_,rfl,?_⟩
  refine h.st 1 rfl rfl λP h=>k a2 c2 (s.pend++[⟨f,n⟩]) _ (by rw[tX,wv]) (λq b=>?_) ?_
  .rcases VR.1 b with b|b
   .exact c q b
   .rw [VE]at b;subst b;exact Q
  .have B:aA P (cellsA db [.map (some s.fb),.slice a2 (s.pend.length+1) c2] 125::slA 122 2 a2 (s.pend.length+1) c2 (flat lK s.pend++lK ⟨f,n⟩)::F):=h.o [1,2] 3;rw[show flat lK s.pend++lK ⟨f,n⟩=flat lK (s.pend++[⟨f,n⟩]) by rw[dR,ny]]at B;simp only[diskC,jk,V3,Wo];exact B
 refine⟨_,_,_,h.r 0,λ_=>trivial,?_⟩
 rcases Y7 s.pend with i|⟨a,last,i⟩
 .have J:¬((0:Int)<(s.pend.length:Int)):=by rw[i];simp
  rw[Wp J];exact⟨none,0,0,λd=>(by cases d),λd=>(by cases d),0,0,λd=>(by cases d),0,λd=>(by cases d),λd=>(by simp at d),λ_=>⟨_,_,_,h.r 0,push H h⟩⟩
 .rw [Y8]at i;have D:s.pend.length=a.length+1:=by rw[i];simp
  have e1:i64.wrap ((s.pend.length:Int)-1)=(a.length:Int):=by rw[aK];omega
  rw[e1,VS (show (0:Int)<(s.pend.length:Int) by omega)];have N:=h.sl_rd 1 rfl;have j:a.length<s.pend.length:=by omega
  have I:s.pend[a.length]=last:=by simp[i]
  have t:=N.some oo (by omega) j;have A:=N.el0 oo j (v:=aC last.file) (by rw[I];rfl);have w:=N.el oo j 1 (v:=aC last.size) (by rw[I];rfl);have L:=c last (by rw[i];simp);have R:cD s.pend=cD a+last.size:=by rw[i];simp[cD]
  have S:0<=cD a:=by rw[<-pe λq b=>c q (by rw[i];exact WP _ b)];omega
  refine⟨_,_,_,λ_=>h.r 0,λ_=>⟨by omega,by omega⟩,_,_,λ_=>t,_,λ_=>A,λO=>?_,λO=>⟨_,_,_,h.r 0,push H h⟩⟩
  have d:last.file=f:=by simpa using O
  refine⟨_,_,_,h.rd 0 rfl _,⟨by omega,by omega⟩,_,_,t,_,w,⟨by omega,by omega⟩,_,_,t,?_⟩;rw[aK (x:=last.size+n)];have e:=h.sl_set 1 rfl (a.length*2+1) [aC (last.size+n)] (by rw[fi oo];simp only[Wo];omega) (by simp);rw[<-Ws]at e;refine⟨e.2.1,?_⟩;rintro G rfl;have B:=e.2.2;rw[yH oo (y:=⟨f,last.size+n⟩) (vs:=[aC (last.size+n)]) (f:=1) j (by simp) (by rw[I,<-d];rfl)]at B;have e2:s.pend.set a.length ⟨f,last.size+n⟩=a++[⟨f,last.size+n⟩]:=by rw[i];simp
  rw[e2]at B;have e3:s.pend.length=(a++[(⟨f,last.size+n⟩:Pc)]).length:=by rw[D];simp
  refine k s.pa s.pc (a++[⟨f,last.size+n⟩]) _ ?_ (λq b=>?_) ?_
  .rw [tX,wv,i,tX,wv,VI,<-d,show (last.size+n).toNat=last.size.toNat+n.toNat by omega,<-List.replicate_append_replicate]
  .rcases VR.1 b with b|b
   .exact c q (by rw[i];exact WP _ b)
   .rw [VE]at b;subst b;simp only;omega
  .simp only[diskC,jk];rw[<-e3];exact B
theorem DOk.sizes_le{m:YM}{pend:List Pc}(ok:DOk m pend rows syn):cD pend<=rows.length:=by have:=ok.len;omega
theorem PG{f:Int}{pa:KQ}{pc:Nat}{parts:List Fy}(hB:rows.length+(parts.flatMap Fy.bs).length<=1099511627776)(hP:parts.length<=1099511627776)
  (V:∀c,aA c F->aP c pa (parts.map dV)/\∀p∈parts,aP c p.a (p.bs.map U8)) (h:aA H (diskX db rows syn::F))
  (k1:f<0\/2147483647<f->∀c,aA c (diskX db rows syn::F)->K (aC 11) c)
  (k2:¬(f<0\/2147483647<f)->∀c,aA c (diskX db (rows++jl f parts) syn::F)->K (aC 0) c) :
  CF 193 #[.pointer (some ⟨db,0,none⟩),aC f,.slice pa parts.length pc] H K:=by
 refine cN 193 0x1d215612399251171494c [[],[(17,sI)]] ?_;refine⟨λT=>k1 (by simpa using T) _ h,λT=>?_⟩
 have hf:¬(f<0\/2147483647<f):=by simpa[VK,not_or] using T
 refine⟨λt c=>∃j:Nat,t=j/\j<=parts.length/\aA c (diskX db (rows++jl f (parts.take j)) syn::F),λt _=>parts.length-t.toNat,⟨0,rfl,VX _,by simpa[jl] using h⟩,?_⟩
 rintro t H1 ⟨j,rfl,hj,h⟩;refine⟨λE=>?_,λE=>?_⟩
 .have u:j<parts.length:=by have:=V4 E;omega
  have C:=(V _ h.tl).1.at (j:=j) u;refine⟨⟨by omega,by omega⟩,_,_,C.1,_,_,_,C.2,?_⟩;intro Y Z;have Q:parts.take (j+1)=parts.take j++[parts[j]]:=Wj u;have fin:∀c,aA c (diskX db (rows++jl f (parts.take (j+1))) syn::F)->Y c:=by
   intro c R;refine Z _ ?_
   conv=>whnf
   rw[aK (x:=(j:Int)+1)];exact⟨⟨j+1,rfl,u,R⟩,by simp only[VD];omega⟩
  have L:=VF u;have O:=λc (R:aA c F)=>(V c R).2 _ L
  have J:(parts.take (j+1)).flatMap Fy.bs=(parts.take j).flatMap Fy.bs++parts[j].bs:=by rw[Q,W4,Wb,List.flatMap_nil,Wc]
  have G:((parts.take (j+1)).flatMap Fy.bs).length<=(parts.flatMap Fy.bs).length:=by
   have:parts.flatMap Fy.bs=(parts.take (j+1)).flatMap Fy.bs++(parts.drop (j+1)).flatMap Fy.bs:=by rw[<-W4,Wt]
   rw[this,V3];omega
  rw[J,V3]at G;have h0:(rows++jl f (parts.take j)).length=rows.length+((parts.take j).flatMap Fy.bs).length:=by simp[jl]
  generalize hrows:rows++jl f (parts.take j)=rows' at *;generalize parts[j]=p at *;refine⟨λB=>?_,λB=>?_⟩
  .have hb:p.bs≠[]:=λe=>by rw[e]at B;simp at B
   have h1:1<=p.bs.length:=Yu.2 hb;obtain⟨s,ok,h⟩:=qx h;have M:=h.mp_get1 mt98 ko3 1 rfl (x:=f);have i:=ok.f.get f;have W:=tW f rows';refine⟨_,h.r 0,_,h.r 0,_,_,_,M,?_⟩;have U:aA H1 (rowY ((aJ f s.m).getD Fy.z)::rowsY (bT f s.m)::diskC db s::j4 s::jk s::F):=by
    cases hm:aJ f s.m with
    | none=>
     rw[kP hm];exact (h.sl_nil 5 1).o [0,3,1,2,4] 5
    | some y=>exact (aA.rowsY_out ok.f.nd hm).1 (h.o [2,0,1,3] 4)
   generalize hy:(aJ f s.m).getD Fy.z=y at *;refine aA.append (m:=p.bs.length) (ws:=p.bs.map U8) rW U 0 rfl (O _ U.tl.tl.tl.tl.tl) (by simp) (nD (λ_=>rfl) _) (by rw[i];omega) (by rw[i];omega) λw A H3 h=>⟨_,_,_,rfl,h.r 2,?_⟩
   have ey:slA 5 1 w (y.bs.length+p.bs.length) A (y.bs.map U8++p.bs.map U8)=rowY ⟨w,A,y.bs++p.bs⟩:=by
    unfold rowY;simp[V3,VT]
   have h:aA H3 (rowY ⟨w,A,y.bs++p.bs⟩::rowsY (bT f s.m)::diskC db s::j4 s::jk s::F):=by rw[<-ey];exact h
   have ev:(Value.slice w (y.bs.length+p.bs.length) A)=dV ⟨w,A,y.bs++p.bs⟩:=by simp
   rw[ev];refine h.mp_update (α:=Fy) (v:=⟨w,A,y.bs++p.bs⟩) mt98 ko3 3 rfl λH4 h=>?_
   have h:=(aA.rowsY_in (m:=s.m) (k:=f)).2 (h.o [0,1,2,3,4] 5);have h3:=DOk.sizes_le ok;have h4:=ok.ple;refine PF (s:=s) (f:=f) (n:=p.bs.length) (F:=rowsY (mset f ⟨w,A,y.bs++p.bs⟩ s.m)::mapA aC dV s.fb (mset f ⟨w,A,y.bs++p.bs⟩ s.m)::F) (by omega) (by omega) ok.pos (by omega) (by omega) (h.o [1,3,0,2] 4)
    λN S D H5 P I h=>⟨rfl,fin _ ?_⟩
   have d:rows++jl f (parts.take (j+1))=rows'++p.bs.map λb=>(f,b):=by rw[Q,G0,G1,<-VI,hrows]
   rw[d];refine mE ⟨s.fb,N,S,D,mset f ⟨w,A,y.bs++p.bs⟩ s.m⟩ ⟨ok.f.append hb (by simp only;rw[i]),by rw[V3];have:=ok.sle;omega,?_,I,λr C=>?_⟩ (h.o [0,3,2,1] 4)
   .rw [P,ok.p,List.drop_append_of_le_length ok.sle,VT,PE];simp
   .rcases VR.1 C with C|C
    .exact ok.keys r C
    .obtain⟨b,_,rfl⟩:=VB.1 C;simp only;omega
  .have hb:p.bs=[]:=by
    have:p.bs.length=0:=by have:=V5 B;omega
    exact WH.1 this
   refine fin _ ?_;have d:rows++jl f (parts.take (j+1))=rows':=by rw[Q,G0,G1,<-VI,hrows,hb];simp
   rw[d];exact h
 .obtain rfl:j=parts.length:=by have:=V5 E;omega
  rw[Wf]at h;exact k2 hf _ h
theorem G2(M:rows.length<=1099511627776)(h:aA H (diskX db rows syn::F))
  (k:∀a c d,aA d (slA 3 1 a (bB rows).length c ((bB rows).map aC)::diskX db rows syn::F)->K (.slice a (bB rows).length c) d) :
  CF 188 #[.pointer (some ⟨db,0,none⟩)] H K:=by
 obtain⟨s,ok,h⟩:=qx h;refine cN 188 0x112156123995141c [[(3,sS)]] ?_;have C:=ok.f.le;refine⟨_,h.r 0,h.rg_new mt98 1 rfl λj L h=>⟨_,rfl,?_⟩⟩
 have h:=h.sl_nil 3 1;refine⟨λla v lc d=>∃dn:YM,v=dn.length/\aA d (slA 3 1 la dn.length lc ((aG dn).map aC)::diskC db s::kQ aC dV j s.fb s.m dn::rowsY s.m::jk s::F),
  λ_ _ _ d=>s.m.length-oR d j,⟨[],rfl,h⟩,?_⟩
 rintro la v lc I ⟨dn,rfl,h⟩;obtain⟨B,G⟩:=h.rg_count 2 rfl;refine h.rg_next 2 rfl (λE=>Or.inl ⟨rfl,λt=>(by cases t),λ_=>?_⟩) λp y D J h=>Or.inr ⟨_,_,rfl,λ_=>?_,λt=>(by cases t)⟩
 .have h:=h.rg_map 2 rfl;have A:(aG dn).length=dn.length:=by simp[aG]
  rw[<-A]at h ⊢;refine Pt h 0 rfl (by omega) λw h=>⟨rfl,?_⟩
  have e1:sortI (aG dn)=bB rows:=by rw[<-ok.f.files];exact vQ (E.map _)
  have e2:(aG dn).length=(bB rows).length:=by rw[<-e1,vR]
  rw[e1]at h;rw[e2]at h ⊢;exact k la lc _ ((mE (F:=_::F) s ok (h.o [1,2,3,4,0] 5)).o [1,0] 2)
 .have i:=aA.rg_entry (P:=Tryz.prog) h 2 rfl;obtain⟨u,e⟩:=h.rg_count 2 rfl;rw[V3,Wo]at u e;refine⟨_,_,i,?_⟩;refine h.al λb _ h=>?_
  refine aA.append (m:=1) (ws:=[aC p.1]) slb44 h 1 rfl (h.ce_rd 0 rfl) rfl rfl (by omega) (by omega) λa2 c2 w h=>⟨_,_,_,rfl,?_⟩
  refine⟨⟨dn++[p],by simp,?_⟩,?_⟩
  .have x:aA w (slA 3 1 a2 (dn.length+1) c2 ((aG dn).map aC++[aC p.1])::diskC db s::kQ aC dV j s.fb s.m (dn++[p])::rowsY s.m::jk s::F):=h.o [1,2,3,4,5] 6;rw[show (aG dn).map aC++[aC p.1]=(aG (dn++[p])).map aC by simp[aG]]at x;simpa only[V3,Wo] using x
  .obtain⟨n,_⟩:=h.rg_count 3 rfl;rw[V3,Wo]at n;simp only;omega
end
theorem PI{pend:List Pc}{j:Nat}(b:j<pend.length){k:Nat}(a:(gM (pend.take j)).length<=k)(c:k<(gM (pend.take j)).length+pend[j].size.toNat):(gM pend)[k]?=some pend[j].file:=by
 have e:gM pend=gM (pend.take j)++(List.replicate pend[j].size.toNat pend[j].file++gM (pend.drop (j+1))):=by
  rw[<-wv,<-tX,<-tX];congr 1;rw[List.singleton_append,<-Wv b,Wt]
 rw[e,List.getElem?_append_right a,List.getElem?_append_left (by rw[List.length_replicate];omega),List.getElem?_replicate,pO]
def dG(rows:DR)(syn:Nat)(keep:Int):DR:=rows.take (syn+(min (max keep 0) ((rows.length:Int)-syn)).toNat)
section
variable {db:Nat}{rows:DR}{syn:Nat}{F L:List aE}{H:aD}{K:KE}
theorem cut_spec{s:DS}{b t:DR}{f n:Int}(i:FOk s.m (b++t))(J:∀r∈t,r.1=f)(G:t≠[])(S:n=t.length)(U:(b++t).length<=1099511627776)(h:aA H (diskC db s::j4 s::rowsY s.m::F))
  (k:∀m' E,FOk m' b->aA E (diskC db { s with m:=m' }::j4 { s with m:=m' }::rowsY m'::F)->K (.tuple #[]) E) :
  CF 44 #[.pointer (some ⟨db,0,none⟩),aC f,aC n] H K:=by
 refine OZ ?_;have N:=h.mp_get1 mt98 ko3 1 rfl (x:=f);have hb:bytesOf f (b++t)=bytesOf f b++t.map Prod.snd:=by rw[qw,P3 J]
 have u:bytesOf f (b++t)≠[]:=by rw[hb];simp[G]
 cases hm:aJ f s.m with
 | none=>exact V2 (i.none.1 hm) u
 | some y=>
  rw[hm]at N;obtain⟨B,O⟩:=i.some hm;rw[hb]at B;have d:y.bs.length=(bytesOf f b).length+t.length:=by rw[B];simp
  have L:=tW f (b++t);rw[hb,<-B]at L;refine⟨_,h.r 0,_,_,_,N,λM=>?_,λM=>?_⟩
  .have A:bytesOf f b=[]:=by
    have:n=(y.bs.length:Int):=V4 M;exact WH.1 (by omega)
   refine⟨_,h.r 0,h.mp_delete mt98 ko3 1 rfl λE h=>?_⟩
   have w:=((aA.rowsY_out i.nd hm).1 (h.o [2,0,1] 3)).o [2,3,1] 4;exact k _ _ ((i.cut J).1 A) w
  .have A:bytesOf f b≠[]:=λe=>by
    have:¬n=(y.bs.length:Int):=V5 M;rw[e]at d;simp at d;omega
   have Q:=Yu.2 A;simp only[Option.getD_some];rw[aK (x:=(y.bs.length:Int)-n)];have D:((y.bs.length:Int)-n).toNat=(bytesOf f b).length:=by omega
   rw[D];have w:=(aA.rowsY_out i.nd hm).1 (h.o [2,0,1] 3);have R:=w.sl_nc 0 rfl;have C:=(w.sl_rd 0 rfl).at (j:=0) (by omega);rw[slB0 C.1];refine⟨_,h.rd 0 rfl _,⟨by omega,by omega,by omega⟩,?_⟩;have I:=w.sl_take 0 rfl (bytesOf f b).length (by omega);have e3:slA 5 1 y.a (bytesOf f b).length y.c ((y.bs.map U8).take ((bytesOf f b).length*1))=rowY ⟨y.a,y.c,bytesOf f b⟩:=by
    unfold rowY;rw[B,Wz,VT];rw[show (bytesOf f b).length=((bytesOf f b).map U8).length by simp,List.take_left]
   have I:aA H (rowY ⟨y.a,y.c,bytesOf f b⟩::rowsY (bT f s.m)::diskC db s::j4 s::F):=by rw[<-e3];exact I
   refine I.mp_update (α:=Fy) (v:=⟨y.a,y.c,bytesOf f b⟩) mt98 ko3 3 rfl λT h=>?_
   have P:=((aA.rowsY_in (m:=s.m) (k:=f)).2 h).o [1,2,0] 3;exact k _ _ ((i.cut J).2 _ rfl A) P
theorem PJ{a:KQ}{n c:Nat}(h:aA H F)(k:∀c0 d,aA d (cellsA c0 [.slice a n c] 120::F)->K (.func (.func 98) #[] #[.pointer (some ⟨c0,0,none⟩)]) d):CF 43 #[.slice a n c] H K:=by
 refine cM 43 28 ?_;exact h.al λb _ h=>k b _ h
theorem PK{l c0:Nat}{pa:KQ}{pc:Nat}{pend:List Pc}(B:pend.length<=1099511627776)(A:Nat->aE)(t:aE)
  (h:aA H (A pend.length::cellsA c0 [.slice pa pend.length pc] 120::slA 122 2 pa pend.length pc (flat lK pend)::F))
  (y:∀j (d:j<pend.length) (G:List aE) (c:aD) (e:KE),aA c (A (j+1)::G)->(∀b,aA b (A j::G)->e (.bool true) b)->(∀b,aA b (t::G)->e (.bool false) b)->
   fL Tryz.prog l [aC j,.agg #[aC pend[j].file,aC pend[j].size]] c e)
  (k:∀a,aA a (A 0::cellsA c0 [.slice pa pend.length pc] 120::slA 122 2 pa pend.length pc (flat lK pend)::F)->K (.tuple #[]) a)
  (v:∀a,aA a (t::cellsA c0 [.slice pa pend.length pc] 120::slA 122 2 pa pend.length pc (flat lK pend)::F)->K (.tuple #[]) a) :
  CF 98 #[.func (.yield l) #[] #[],.pointer (some ⟨c0,0,none⟩)] H K:=by
 refine cN 98 96300973186693524 [[(3,sI)]] ?_;have u:i64.wrap ((pend.length:Int)-1)=(pend.length:Int)-1:=aK;refine⟨_,_,_,h.r 1,λi a=>∃j:Nat,i=(j:Int)-1/\j<=pend.length/\aA a (A j::cellsA c0 [.slice pa pend.length pc] 120::slA 122 2 pa pend.length pc (flat lK pend)::F),λi _=>(i+1).toNat,⟨pend.length,u,VA _,h⟩,?_⟩
 rintro i c ⟨j,rfl,d,h⟩;refine⟨λn=>?_,λn=>?_⟩
 .obtain⟨q,rfl⟩:∃q,j=q+1:=⟨j-1,by have:=V4 n;omega⟩;have eq:((q+1:Nat):Int)-1=(q:Int):=by omega
  rw[eq];have s:=h.sl_rd 2 rfl;refine⟨_,_,_,h.rd 1 rfl _,⟨by omega,by omega⟩,_,_,s.some oo (by omega) d,_,_,s.els oo d,?_⟩;refine y q d _ c _ h (λw f=>⟨true,rfl,λm=>(by cases m),λ_=>?_⟩) λw f=>⟨false,rfl,λ_=>v _ f,λm=>(by cases m)⟩
  conv=>whnf
  rw[aK (x:=(q:Int)-1)];exact⟨⟨q,rfl,by omega,f⟩,by simp only;omega⟩
 .obtain rfl:j=0:=by have:=V5 n;omega
  exact k _ h
def crA(db b b1 l:Nat)(R:Loop)(s:DS)(rows:DR)(lost:Int)(j:Nat):aE:=
 exS λm:YM=>star [pur (FOk m (rows.take (rows.length-(min (max lost 0) (cD (s.pend.drop j))).toNat))),diskC db { s with m:=m },j4 { s with m:=m },rowsY m,cellsA b [.pointer (some ⟨db,0,none⟩)] 30,cellsA b1 [aC (lost-cD (s.pend.drop j))] 3,pt l (.loop R)]
def crX(db b l:Nat)(R:Loop)(s:DS)(rows:DR)(lost:Int):aE:=
 exS λm:YM=>star [pur (FOk m (rows.take (rows.length-(max lost 0).toNat))),diskC db { s with m:=m },j4 { s with m:=m },rowsY m,cellsA b [.pointer (some ⟨db,0,none⟩)] 30,pt l (.loop { R with state:=.done,pending:=some (.exit 0) })]
theorem G3{pend:List Pc}(a:∀q∈pend,1<=q.size)(j:Nat):0<=cD (pend.drop j)/\cD (pend.drop j)+cD (pend.take j)=cD pend/\0<=cD (pend.take j):=by
 have e:cD pend=cD (pend.take j)+cD (pend.drop j):=by
  unfold cD;rw[<-List.sum_append,<-VT,Wt]
 have p1:=pe (pend:=pend.take j) λq b=>a q (Ww b)
 have p2:=pe (pend:=pend.drop j) λq b=>a q (WE b)
 omega
theorem PM{s:DS}{b b1 j:Nat}{a:Int}{u v:aD}{R:Loop}{G:List aE}{y:KE}(ok:DOk s.m s.pend rows syn)(hB:rows.length<=1099511627776)(P:-9223372036854775808+1099511627776<=a+1099511627776)(O:a<=(rows.length:Int)-syn)(w:j<s.pend.length)
  (h:aA v (crA db b b1 (u.size+1) R s rows a (j+1)::G)) (Y:∀t,aA t (crA db b b1 (u.size+1) R s rows a j::G)->y (.bool true) t) (L:∀t,aA t (crX db b (u.size+1) R s rows a::G)->y (.bool false) t) :
  zm.y1 b b1 u R [aC j,.agg #[aC s.pend[j].file,aC s.pend[j].size]] v y:=by
 obtain⟨m,h⟩:=cJ.1 h;obtain⟨k,h⟩:=aA.consP h.open;have h:aA v (diskC db { s with m:=m }::j4 { s with m:=m }::rowsY m::cellsA b [.pointer (some ⟨db,0,none⟩)] 30::cellsA b1 [aC (a-cD (s.pend.drop (j+1)))] 3::pt (u.size+1) (.loop R)::G):=h;have H:=ok.len;have I:=ok.sle;obtain⟨p1,p2,p3⟩:=G3 ok.pos (j+1);have Z:s.pend.drop j=s.pend[j]::s.pend.drop (j+1):=Wv w;have es:cD (s.pend.drop j)=s.pend[j].size+cD (s.pend.drop (j+1)):=by rw[Z];unfold cD;rw[Wa,WW]
 obtain⟨q1,q2,q3⟩:=G3 ok.pos j;have M:=ok.pos _ (VF w);have S:=pe (pend:=s.pend.take j) λq T=>ok.pos q (Ww T)
 unfold zm.y1;refine⟨_,_,_,rfl,h.getO 5 rfl,?_⟩;refine h.al λb2 _ h=>h.st 0 rfl rfl λ_ h=>⟨h.getO 6 rfl,h.stl 6 rfl λH6 h=>⟨_,h.r 5,λE=>?_,λE=>?_⟩⟩
 .have W:a-cD (s.pend.drop (j+1))<=0:=V4 E;refine⟨h.getO 6 rfl,L _ ?_⟩;have h:=h.setO 6 rfl (.loop { R with state:=.done,pending:=some (.exit 0) });rw[show min (max a 0) (cD (s.pend.drop (j+1)))=max a 0 by omega]at k;exact cJ.2 ⟨m,aA.shut [_,_,_,_,_,_] (aA.pur (h.o [1,2,3,4,6] 7) k)⟩
 .have N:¬a-cD (s.pend.drop (j+1))<=0:=V5 E;refine⟨_,h.r 4,_,h.r 0,_,h.r 0,_,h.r 5,?_⟩;generalize hcv:(if a-cD (s.pend.drop (j+1))<s.pend[j].size then a-cD (s.pend.drop (j+1)) else s.pend[j].size)=c
  have Q:1<=c/\c<=s.pend[j].size/\c=min (s.pend[j].size) (a-cD (s.pend.drop (j+1))):=by rw[<-hcv];split <;> omega
  have e1:(min (max a 0) (cD (s.pend.drop (j+1)))).toNat=(cD (s.pend.drop (j+1))).toNat:=by congr 1;omega
  rw[e1]at k;generalize hD:(cD (s.pend.drop (j+1))).toNat=D at *;have K:cD (s.pend.drop (j+1))=D:=by omega
  have n:(rows.take (rows.length-D)).length=rows.length-D:=by rw[VU];omega
  have d:rows.take (rows.length-D)=rows.take (rows.length-D-c.toNat)++(rows.take (rows.length-D)).drop (rows.length-D-c.toNat):=by
   conv=>lhs;rw[<-Wt (rows.length-D-c.toNat) (rows.take (rows.length-D))]
   rw[List.take_take,WR (by omega)]
  have f:((rows.take (rows.length-D)).drop (rows.length-D-c.toNat)).length=c.toNat:=by rw[VP,n];omega
  have A:∀r∈(rows.take (rows.length-D)).drop (rows.length-D-c.toNat),r.1=s.pend[j].file:=by
   intro r U;obtain⟨i,hi⟩:=List.getElem?_of_mem U;have V:i<c.toNat:=by have:=(List.getElem?_eq_some_iff.1 hi).1;rw[f]at this;exact this
   rw[List.getElem?_drop,List.getElem?_take_of_lt (by omega)]at hi;have F:((rows.drop syn).map Prod.fst)[rows.length-D-c.toNat+i-syn]?=some r.1:=by
    rw[List.getElem?_map,List.getElem?_drop,show syn+(rows.length-D-c.toNat+i-syn)=rows.length-D-c.toNat+i by omega,hi];rfl
   rw[<-ok.p,PI w (by omega) (by omega)]at F;exact (Option.some.inj F).symm
  have C:(rows.take (rows.length-D)).drop (rows.length-D-c.toNat)≠[]:=λe=>by rw[e]at f;simp at f;omega
  have x:(rows.take (rows.length-D-c.toNat)++(rows.take (rows.length-D)).drop (rows.length-D-c.toNat)).length<=1099511627776:=by rw[<-d,n];omega
  rw[d]at k;refine cut_spec (s:={ s with m:=m }) k A C (by rw[f];omega) x (h.o [1,2,3,0,4,5,6] 7) λm' H7 B h=>⟨rfl,_,h.r 5,_,h.r 3,?_⟩
  have J:a-cD (s.pend.drop (j+1))-s.pend[j].size=a-cD (s.pend.drop j):=by omega
  conv=>whnf
  rw[J,aK];refine h.st 5 rfl rfl λH8 h=>⟨h.getO 6 rfl,Y _ ?_⟩
  have h:=h.setO 6 rfl (.loop R);refine cJ.2 ⟨m',aA.shut [_,_,_,_,_,_,_] (aA.pur (h.o [0,1,2,4,5,6] 7) ?_)⟩;have e2:rows.length-(min (max a 0) (cD (s.pend.drop j))).toNat=rows.length-D-c.toNat:=by omega
  rw[e2];exact B
theorem G4{keep:Int}(I:aF keep)(y:rows.length<=1099511627776)(h:aA H (diskX db rows syn::F))
  (k:∀e,aA e (diskX db (dG rows syn keep) (dG rows syn keep).length::F)->K (.tuple #[]) e):CF 15 #[.pointer (some ⟨db,0,none⟩),aC keep] H K:=by
 refine Pd ?_;unfold aF at I;refine h.al λb _ h=>⟨_,h.r 0,?_⟩
 refine Gz (F:=cellsA b [.pointer (some ⟨db,0,none⟩)] 30::F) y (h.o [1,0] 2) λJ h=>⟨_,rfl,?_⟩
 have u:(if 0>keep then 0 else keep)=max keep 0:=by split <;> omega
 obtain⟨s,ok,h⟩:=qx h;have B:=ok.sle;have A:=ok.len;have Q:=ok.ple
 conv=>whnf
 rw[u,aK (x:=(rows.length:Int)-syn-max keep 0)];generalize hlost:(rows.length:Int)-syn-max keep 0=lost;have i:rows.take (rows.length-(max lost 0).toNat)=dG rows syn keep:=by unfold dG;congr 1;omega
 refine h.al λb1 _ h=>h.st 0 rfl rfl λ_ h=>⟨_,h.r 5,cZ ⟨_,_,_,h.r 1,?_⟩⟩
 refine PJ h λc0 c h=>⟨_,_,rfl,rfl,λR t w O=>?_⟩
 have h:=h.rng R;have h0:aA ((c.push (.deferred (some []))).push (.loop R)) (crA db b b1 (c.size+1) R s rows lost s.pend.length::cellsA c0 [.slice s.pa s.pend.length s.pc] 120::jk s::pt c.size (.deferred (some []))::F):=by
  refine cJ.2 ⟨s.m,aA.shut [_,_,_,_,_,_,_] (aA.pur ?_ ?_)⟩
  .rw [W1,show cD []=0 from rfl,Int.sub_zero];exact h.o [4,5,6,8,3,0,2,7,1] 9
  .rw [W1,show cD []=0 from rfl,show (min (max lost 0) 0).toNat=0 by omega,Nat.sub_zero,Wf];exact ok.f
 have a:∀(m:YM) e,FOk m (dG rows syn keep)->aA e (cellsA db [.map (some s.fb),.slice none 0 0] 125::j4 { s with m:=m }::rowsY m::F)->aA e (diskX db (dG rows syn keep) (dG rows syn keep).length::F):=by
  intro m e d v;have v:=(v.sl_nil 122 2).o [1,2,3,0] 4;exact mE ⟨s.fb,none,0,[],m⟩ ⟨d,VA _,by simp[gM],λ_ M=>(by cases M),λr N=>ok.keys r (Ww N)⟩ v
 refine PK (by omega) (λj=>crA db b b1 (c.size+1) R s rows lost j) (crX db b (c.size+1) R s rows lost) h0 (λj L G J S C P D=>O _ _ _ (PM ok y (by omega) (by omega) L C P D)) (λn h=>?_) λn h=>?_
 .obtain⟨m,h⟩:=cJ.1 h;obtain⟨d,h⟩:=aA.consP h.open;have h:aA n (diskC db { s with m:=m }::j4 { s with m:=m }::rowsY m::cellsA b [.pointer (some ⟨db,0,none⟩)] 30::cellsA b1 [aC (lost-cD (s.pend.drop 0))] 3::pt (c.size+1) (.loop R)::cellsA c0 [.slice s.pa s.pend.length s.pc] 120::jk s::pt c.size (.deferred (some []))::F):=h;have e0:min (max lost 0) (cD (s.pend.drop 0))=max lost 0:=by rw[List.drop_zero];omega
  rw[e0,i]at d;refine⟨.ready,none,by decide,by rw[nC t w];exact h.getO 5 rfl,h.stl 5 rfl λE h=>Or.inl ⟨rfl,_,h.r 3,cZ (h.st 0 rfl rfl λ_ h=>⟨h.getO 8 rfl,?_⟩)⟩⟩
  have h:=h.setO 8 rfl (.deferred none);exact k _ (a m _ d (h.o [0,1,2] 9))
 .obtain⟨m,h⟩:=cJ.1 h;obtain⟨d,h⟩:=aA.consP h.open;have h:aA n (diskC db { s with m:=m }::j4 { s with m:=m }::rowsY m::cellsA b [.pointer (some ⟨db,0,none⟩)] 30::pt (c.size+1) (.loop { R with state:=.done,pending:=some (.exit 0) })::cellsA c0 [.slice s.pa s.pend.length s.pc] 120::jk s::pt c.size (.deferred (some []))::F):=h;rw[i]at d;refine⟨.done,some (.exit 0),by decide,h.getO 4 rfl,h.stl 4 rfl λE h=>Or.inr ⟨rfl,_,h.r 3,cZ (h.st 0 rfl rfl λ_ h=>⟨h.getO 7 rfl,?_⟩)⟩⟩
  have h:=h.setO 7 rfl (.deferred none);exact k _ (a m _ d (h.o [0,1,2] 8))
end
theorem G5(rows:DR):(bB rows).length<=rows.length:=by
 unfold bB;rw[vR];have:∀l:List Int,(om l).length<=l.length:=by
  intro l
  induction l with
  | nil=>exact VA _
  | cons a r ih=>
   unfold om
   split
   .simp only[V9];omega
   .simp only[V9];omega
 have:=this (rows.map Prod.fst);simpa using this
structure CD where
 what:Int
 file:Int
 keep:Int
 a:KQ
 c:Nat
 bs:List Int
theorem PN(rows:DR)(syn:Nat)(keep:Int):(dG rows syn keep).length<=rows.length:=by unfold dG;rw[VU];omega
theorem rX{n:Nat}(h:n<4294967296):(BitVec.ofInt u32.bits (n:Int)).toNat=n:=by
 rw[Y9,YA];exact WG h
theorem xor32{n m:Nat}(a:n<4294967296)(hm:m<4294967296):aX .xor .u32 (n:Int) (m:Int)=((n^^^m:Nat):Int):=by
 unfold aX;rw[BitVec.toNat_xor,rX a,rX hm];have:n^^^m<2^32:=Nat.xor_lt_two_pow a hm;exact u32w (by omega) (by omega)
theorem and32{n m:Nat}(a:n<4294967296)(hm:m<4294967296):aX .and .u32 (n:Int) (m:Int)=((n &&& m:Nat):Int):=by
 unfold aX;rw[BitVec.toNat_and,rX a,rX hm];have:n &&& m<2^32:=Nat.and_lt_two_pow n hm;exact u32w (by omega) (by omega)
def stepC(n:Nat):Nat:=if n%2=1 then (n/2)^^^3988292384 else n/2
theorem stepC_lt{n:Nat}(h:n<4294967296):stepC n<4294967296:=by
 unfold stepC
 split
 .have:(n/2)^^^3988292384<2^32:=Nat.xor_lt_two_pow (by omega) (by decide);omega
 .omega
def wy:Nat->Nat->Nat
 | 0,n=>n
 | k+1,n=>stepC (wy k n)
theorem zG{n:Nat}(h:n<4294967296):∀k,wy k n<4294967296
 | 0=>h
 | k+1=>stepC_lt (zG h k)
def u32n(v:Int):Nat:=(u32.wrap v).toNat
theorem wA(v:Int):(u32n v:Int)=u32.wrap v/\u32n v<4294967296:=by
 unfold u32n;simp only[IntKind.wrap,IntKind.bits,IntKind.signed]
 first|omega|(simp;omega)
def byteC(n:Nat)(v:Int):Nat:=wy 8 (n^^^u32n v)
theorem zH{n m:Nat}(a:n<4294967296)(hm:m<4294967296):n^^^m<4294967296:=by
 have:n^^^m<2^32:=Nat.xor_lt_two_pow a hm;omega
theorem byteC_lt{n:Nat}{v:Int}(h:n<4294967296):byteC n v<4294967296:=zG (zH h (wA v).2) 8
def jT(n:Nat)(l:List Int):Nat:=l.foldl byteC n
theorem tY:∀{l:List Int} {n:Nat},n<4294967296->jT n l<4294967296
 | [],n,h=>h
 | v::r,n,h=>tY (l:=r) (byteC_lt h)
def kT(l:List Int):Int:=((4294967295^^^jT 4294967295 l:Nat):Int)
theorem zI(l:List Int):0<=kT l/\kT l<4294967296:=by
 have:=zH (n:=4294967295) (by decide) (tY (l:=l) (n:=4294967295) (by decide));unfold kT;omega
theorem crc_end(l:List Int):aX .xor .u32 u32.max (jT 4294967295 l:Int)=kT l:=by
 rw[show u32.max=((4294967295:Nat):Int) from rfl,xor32 (by decide) (tY (by decide))];rfl
theorem crc_byte{n:Nat}(h:n<4294967296)(v:Int):aX .xor .u32 (n:Int) (u32.wrap v)=((n^^^u32n v:Nat):Int):=by
 rw[<-(wA v).1,xor32 h (wA v).2]
theorem G6(n:Nat)(l r:List Int):jT n (l++r)=jT (jT n l) r:=WX ..
theorem PS{l:List Int}{n i:Nat}(h:i<l.length):jT n (l.take (i+1))=byteC (jT n (l.take i)) l[i]:=by
 rw[<-List.take_append_getElem h,G6];rfl
theorem PT{n:Nat}(h:n<4294967296) :
  aX .xor .u32 (Int.fdiv (n:Int) (2^(min (Int.toNat 1) (u32.bits)))) (aX .and .u32 (u32.wrap (0-(aX .and .u32 (n:Int) 1))) 3988292384)=(stepC n:Int):=by
 have e1:Int.fdiv (n:Int) (2^(min (Int.toNat 1) (u32.bits)))=((n/2:Nat):Int):=by
  show Int.fdiv (n:Int) 2=_;rw[WT _ (by decide)];omega
 have e2:aX .and .u32 (n:Int) 1=((n%2:Nat):Int):=by
  rw[show (1:Int)=((1:Nat):Int) from rfl,and32 h (by decide),Nat.and_one_is_mod]
 rw[e1,e2];unfold stepC
 rcases Nat.mod_two_eq_zero_or_one n with h0|h0
 .rw [h0,V0 (by decide)];have:aX .and .u32 (u32.wrap (0-((0:Nat):Int))) 3988292384=((0:Nat):Int):=by decide
  rw[this,xor32 (by omega) (by decide),Nat.xor_zero]
 .rw [h0,V1 rfl];have:aX .and .u32 (u32.wrap (0-((1:Nat):Int))) 3988292384=((3988292384:Nat):Int):=by decide
  rw[this,xor32 (by omega) (by decide)]
theorem zJ{parts:List Fy}{j:Nat}(h:j<parts.length):(parts.take (j+1)).flatMap Fy.bs=(parts.take j).flatMap Fy.bs++parts[j].bs:=by
 rw[Wj h,W4];simp
theorem zK{H:aD}{a:KQ}{c:Nat}{parts:List Fy}(I:aP H a (parts.map dV))(J:∀y∈parts,aP H y.a (y.bs.map U8))(N:parts.length<=1099511627776)
  (K:∀y∈parts,y.bs.length<=1099511627776):bV Tryz.prog 165 #[.slice a parts.length c] H (.int .u32 (kT (parts.flatMap Fy.bs))):=by
 unfold bV;refine cN 165 0x11215612399251156123992511156123992514444c [[(3,.one (.int .u32)),(25,sI)],[(3,.one (.int .u32)),(17,sI)],[(3,.one (.int .u32)),(11,sI)]] ?_;refine⟨λs i u=>u=H/\∃j:Nat,i=j/\j<=parts.length/\s=(jT 4294967295 ((parts.take j).flatMap Fy.bs):Nat),λ_ i _=>parts.length-i.toNat,⟨rfl,0,rfl,VX _,rfl⟩,?_⟩
 rintro s i u ⟨rfl,j,rfl,M,rfl⟩;refine⟨λf=>?_,λf=>?_⟩
 .have b:j<parts.length:=by simpa using f
  have v:=I.at b;have B:=J _ (VF b);have w:=K _ (VF b);have D:i64.wrap ((j:Int)+1)=((j+1:Nat):Int):=aK;have C:=zJ b;obtain⟨y,F⟩:∃y,parts[j]=y:=⟨_,rfl⟩;rw[F]at v B w C;refine⟨⟨by omega,by omega⟩,_,_,v.1,_,_,_,v.2,?_⟩;refine⟨λs i t=>t=u/\∃k:Nat,i=k/\k<=y.bs.length/\s=(jT (jT 4294967295 ((parts.take j).flatMap Fy.bs)) (y.bs.take k):Nat),λ_ i _=>y.bs.length-i.toNat,⟨rfl,0,rfl,VX _,rfl⟩,?_⟩
  rintro s1 i1 G ⟨rfl,k,rfl,L,rfl⟩;have x:jT (jT 4294967295 ((parts.take j).flatMap Fy.bs)) (y.bs.take k)<4294967296:=tY (tY (by decide));refine⟨λf=>?_,λf=>?_⟩
  .have h:k<y.bs.length:=by simpa using f
   have A:=B.at h;have E:=zH x (wA y.bs[k]).2;refine⟨⟨by omega,by omega⟩,_,_,A.1,_,A.2,?_⟩
   conv=>whnf
   rw[crc_byte x];refine⟨λs i t=>t=G/\∃m:Nat,i=m/\m<=8/\s=(wy m (jT (jT 4294967295 ((parts.take j).flatMap Fy.bs)) (y.bs.take k)^^^u32n y.bs[k]):Nat),λ_ i _=>8-i.toNat,⟨rfl,0,rfl,VX _,rfl⟩,?_⟩
   rintro s1 i1 t ⟨rfl,m,rfl,hm,rfl⟩;have hs:=zG E m;refine⟨λe=>?_,λe=>?_⟩
   .have n:m<8:=by simp at e;omega
    have e1:i64.wrap ((m:Int)+1)=((m+1:Nat):Int):=aK;refine⟨by decide,?_⟩
    conv=>whnf
    rw[PT hs,e1];exact⟨⟨rfl,m+1,rfl,by omega,rfl⟩,by dsimp only;omega⟩
   .have n:m=8:=by simp at e;omega
    subst n;have e1:i64.wrap ((k:Int)+1)=((k+1:Nat):Int):=aK
    conv=>whnf
    rw[e1];refine⟨⟨rfl,k+1,rfl,by omega,?_⟩,by dsimp only;omega⟩;rw[PS h];rfl
  .have d:k=y.bs.length:=by simp at f;omega
   subst d
   conv=>whnf
   rw[D];refine⟨⟨rfl,j+1,rfl,by omega,?_⟩,by dsimp only;omega⟩;rw[C,G6,Wf]
 .have d:j=parts.length:=by simp at f;omega
  subst d;rw[Wf];exact⟨congrArg (Value.int .u32) (crc_end _),rfl⟩
end Go.Proofs.YtaaieblnikcndaaGreatDoor
