/-
  Lemmas for GateQuiet: part 3 of what it rests on. Conditions: none.
-/
import Derived.Test.YtaaieblnikcndaaGreatDoorGC2
set_option linter.unusedVariables false
set_option linter.unusedSimpArgs false
set_option maxRecDepth 100000
set_option maxHeartbeats 16000000
open Go.IntKind (i64 u64 i8 u8 i32 u32 i16 u16)
namespace Go.Proofs.YtaaieblnikcndaaGreatDoor
open Go
def rF.code(c0b c0o c1b c1o:Nat)(rv:Value)(H:aC)(K:aC->Prop):Prop:=
 ∃eq:Bool,iH Tryz.prog .eql 20 rv .nilIface eq/\
 ∀Jn:fE,(∀H_,(K H_)->Jn H_)->
 IF eq (
 Jn H) (
 ∃a,∃there:Bool,lU Tryz.prog (Instr.typeAssert rv 20 335 true) (mf (.agg #[(aB a)]) there)/\
 ∀Jn1:fE,(∀H_1,(Jn H_1)->Jn1 H_1)->
 IF there (
 AL H [(aB 0)] 335 λb H_2=>
 ST H_2 b 0 [(aB a)] λH_3=>
 aO H_3 b 0 λv=>
 ST H_3 c0b c0o vU λH_4=>
 aK H_4 b 0=some (aB v)/\
 ST H_4 c1b c1o [(aB v)] λH_5=>
 Jn1 H_5) (
 ST H c0b c0o vU λH_6=>
 ST H_6 c1b c1o [(aB 10)] λH_7=>
 Jn1 H_7))
theorem rF.defq{c d b a e H K:_}{u f:FrameMode}(j:(u=.returning/\e=.nilIface/\f=.returning)\/(u=bi e false/\f=bi e true))(i:rF.code c d b a e H K):cB Tryz.prog 167 (du c d b a) u H λh k=>h=f/\K k:=
 yu (X:=X) (an:=(.seq .reg (.blk (.seq .reg (.condJ [] .reg (.seq .reg (.condJ [] (.seq .reg .reg) (.seq .reg .reg)))))))) X_P ru ry Tryz.func167 j (by kernel_rfl) i
section
variable {a b c d e f g i j k a0 a1 a2 a3 a4 a5 a6 a7 a8 a9 b0 b1 b2 b3 b4 b5 b6 b7 b8 b9 c0 c1 c2 c3 c4 c5 c6 c7 c8 c9 d0 d1 d2 d3 d4 d5 d6 d7 d8 d9 e0 e1 e2 e3 e4 e5 e6 e7 e8 e9 f0 f1 f2 f3 f4 f5 f6 f7 f8 f9 g0 g1 g2 g3 g4 g5 g6 g7 g8 g9 i0 i1 i2 i3 i4 i5 i6 i7 i9 k0 k1 k2 k3 k4 k5 k6 k7 k8 k9 m0 m1 m2 m3 m4 m5 m6 m7 m8 m9 n0:Int}{l m n o p q r n1 n2 n3 n4 n5 n6 n7 n8 n9 o0 o1 o2 o3 o4 o5 o6 o7 o8 o9 p0 p1 p2 p3 p4 p5 p6 p7 p8 p9 q0 q1 q2 q3 q4 q5 q6 q7 q8 q9 s0 s1 s2 s3 s4 s5 s6 s7 s8 s9 t0 t1 t2 t3 t4 t5 t6 t7 t8 t9 u0:Nat}{s t u v u1 u2 u3 u4 u5 u6 u7 u9 v0 v1 v2 v3 v4 v5 v6 v7 v8 v9 w0 w1 w2 w3 w4 w5 w6 w7 w8 w9 x0 x1:KQ}{w x x2 x3 x4 x5 x6 x7 x8 x9 z0 z1 z2 z3 z4 z5 z6:Fa}{y z7 z8 z9 aa ab ac ad ae af ag ai aj ak al am:Bool}{z an ao ap aq ar au av aw:Nat->Int}{az ah ba bb bc bd be bf:Value}{bj bk bl bm bn bo bp bq:Os}{bt bu bv bw bx bz:FuncId}{cb cc cd ce cf cg ci cj ck cl cm cn:Option Nat}{H:aC}{K KP:KE}
theorem OG(h :
 AL H vU 81 λa c3=>
 AL c3 [aB 0] 50 λb c4=>
 C_p 168 [.slice s l m] c4 λc c5=>
 P_i 169 [.pointer c] c5 (λr1 c6=>
 ST c6 a 0 [aB r1] λc7=>
 C_l 170 [PA a 0] c7 λc8 w k0 c9=>
 ∃(v:eU) (c2:ir),v 0 c9/\
 ∀e d,v e d->
 ID (e<w) (
 IA e w c8 λd0 d1=>
 bC d d0 (d1+e.toNat) λf=>
 C_u 171 [.pointer c] d λr2 d2=>
 NN f (
 ST d2 (aV f) (aS f) [aB (i64.wrap r2)] λx=>
 Q_i 173 [.pointer c] x λr3=>
 mh 172 [aB r3] x (λy=>
 v (i64.wrap (e+1)) y/\c2 (i64.wrap (e+1)) y<c2 e d) (λz d3=>
 bI 167 X.calls=true/\
 cB Tryz.prog 167 (du a 0 b 0) (bi z false) d3 λd4 g=>d4=bi z true/\
 mi g a 0 λd5=>
 aO g b 0 λd6=>
 K (dW (.agg ⟨d5⟩) d6) g))) (
 aO d a 0 λa0=>
 ∀t:fE,(∀a9,(C_i 177 [.pointer c] a9 λr4 d7=>
 mh 172 [aB r4] d7 (λa1=>
 mi a1 a 0 λd8=>
 C_b 137 [.agg ⟨d8⟩] a1 λr5 a2=>
 ∀c1:fE,(∀r,(mi r a 0 λd9=>
 ST r a 0 d9 λe0=>
 ST e0 b 0 [aB 0] λe1=>
 bI 167 X.calls=true/\
 cB Tryz.prog 167 (du a 0 b 0) .returning e1 λe2 i=>e2=.returning/\
 mi i a 0 λe3=>
 aO i b 0 λe4=>
 K (dW (.agg ⟨e3⟩) e4) i)->c1 r)->
 IF (!r5) (
 bI 167 X.calls=true/\
 cB Tryz.prog 167 (du a 0 b 0) (bi (.iface 335 (.agg #[aB 10])) false) a2 λe5 j=>e5=bi (.iface 335 (.agg #[aB 10])) true/\
 mi j a 0 λe6=>
 aO j b 0 λe7=>
 K (dW (.agg ⟨e6⟩) e7) j) (
 c1 a2)) (λa3 e8=>
 bI 167 X.calls=true/\
 cB Tryz.prog 167 (du a 0 b 0) (bi a3 false) e8 λe9 k=>e9=bi a3 true/\
 mi k a 0 λf0=>
 aO k b 0 λf1=>
 K (dW (.agg ⟨f0⟩) f1) k))->t a9)->
 ID (a0=5) (
 CP 174 ⟨[.pointer c]⟩ d (λf2 f3=>∃b0 b1 b2,f2=(.slice b0 b1 b2)/\
 ST f3 a 10 [.slice b0 b1 b2] λf4=>
 t f4) (λa4 f5=>
 bI 167 X.calls=true/\
 cB Tryz.prog 167 (du a 0 b 0) (bi a4 false) f5 λf6 n=>f6=bi a4 true/\
 mi n a 0 λf7=>
 aO n b 0 λf8=>
 K (dW (.agg ⟨f7⟩) f8) n)) (
 ∀u:fE,(∀b3,(t b3)->u b3)->
 ID (a0=8) (
 CP 175 ⟨[.pointer c]⟩ d (λf9 g0=>∃b4 b5 b6 b7,f9=(A_sl b4 b5 b6 b7)/\
 ST g0 a 11 (L_sl b4 b5 b6 b7) λg1=>
 CF 176 ⟨(kv c 4096)⟩ g1 λg2 g3=>∃r6,g2=(.string r6)/\
 cA Tryz.prog (convert 9 43 (.string r6)) g3 λg4 g5=>
 ∃b8 b9 c0,g4=(.slice b8 b9 c0)/\
 ST g5 a 13 [.slice b8 b9 c0] λa5=>
 Q_i 173 [.pointer c] a5 λr7=>
 mh 172 [aB r7] a5 (λg6=>
 u g6) (λa6 g7=>
 bI 167 X.calls=true/\
 cB Tryz.prog 167 (du a 0 b 0) (bi a6 false) g7 λg8 o=>g8=bi a6 true/\
 mi o a 0 λg9=>
 aO o b 0 λi0=>
 K (dW (.agg ⟨g9⟩) i0) o)) (λa7 i1=>
 bI 167 X.calls=true/\
 cB Tryz.prog 167 (du a 0 b 0) (bi a7 false) i1 λi2 p=>i2=bi a7 true/\
 mi p a 0 λi3=>
 aO p b 0 λi4=>
 K (dW (.agg ⟨i3⟩) i4) p)) (
 u d)))) (λa8 i5=>
 bI 167 X.calls=true/\
 cB Tryz.prog 167 (du a 0 b 0) (bi a8 false) i5 λi6 q=>i6=bi a8 true/\
 mi q a 0 λi7=>
 aO q b 0 λi9=>
 K (dW (.agg ⟨i7⟩) i9) q)):CF 80 ⟨[.slice s l m]⟩ H K:=cE 0x2424242422456242399252424442245247424724244924224749249 [[],[],[],[(16, sI)]] h
end
section
variable {a b c d e f g i j k a0 a1 a2 a3 a4 a5 a6 a7 a8 a9 b0 b1 b2 b3 b4 b5 b6 b7 b8 b9 c0 c1 c2 c3 c4 c5 c6 c7 c8 c9 d0 d1 d2 d3 d4 d5 d6 d7 d8 d9 e0 e1 e2 e3 e4 e5 e6 e7 e8 e9 f0 f1 f2 f3 f4 f5 f6 f7 f8 f9 g0 g1 g2 g3 g4 g5 g6 g7 g8 g9 i0 i1 i2 i3 i4 i5 i6 i7 i9 k0 k1 k2 k3 k4 k5 k6 k7 k8 k9 m0 m1 m2 m3 m4 m5 m6 m7 m8 m9 n0:Int}{l m n o p q r n1 n2 n3 n4 n5 n6 n7 n8 n9 o0 o1 o2 o3 o4 o5 o6 o7 o8 o9 p0 p1 p2 p3 p4 p5 p6 p7 p8 p9 q0 q1 q2 q3 q4 q5 q6 q7 q8 q9 s0 s1 s2 s3 s4 s5 s6 s7 s8 s9 t0 t1 t2 t3 t4 t5 t6 t7 t8 t9 u0:Nat}{s t u v u1 u2 u3 u4 u5 u6 u7 u9 v0 v1 v2 v3 v4 v5 v6 v7 v8 v9 w0 w1 w2 w3 w4 w5 w6 w7 w8 w9 x0 x1:KQ}{w x x2 x3 x4 x5 x6 x7 x8 x9 z0 z1 z2 z3 z4 z5 z6:Fa}{y z7 z8 z9 aa ab ac ad ae af ag ai aj ak al am:Bool}{z an ao ap aq ar au av aw:Nat->Int}{az ah ba bb bc bd be bf:Value}{bj bk bl bm bn bo bp bq:Os}{bt bu bv bw bx bz:FuncId}{cb cc cd ce cf cg ci cj ck cl cm cn:Option Nat}{H:aC}{K KP:KE}
theorem OH(h :
 AL H (L_i13 a b c d e f g i j k a0 a1 a2) 25 λa9 g7=>
 C_b 7 [] g7 λg8 b0=>
 IF (!g8) (
 K (.bool false) b0) (
 yR b0 a9 0 λg9=>
 C_b 8 (L_vl (.agg ⟨g9⟩) s l m) b0 λr1 b1=>
 IF r1 (
 K (.bool true) b1) (
 yR b1 a9 0 λi0=>
 C_Tpp_ 9 [.agg ⟨i0⟩] b1 λr2 r3 b2=>
 IF (r2.isNone||r3.isNone) (
 yR b2 a9 0 λi1=>
 C_Wi13_ 10 [.agg ⟨i1⟩] b2 λi2 i3=>
 C_b 11 [.agg ⟨i2⟩] i3 λi4 i5=>
 K (.bool (!i4)) i5) (
 ∃(d0:eU) (g5:ir),d0 0 b2/\
 ∀q w,d0 q w->
 ID (q<l) (
 ∀a8:fE,(∀c4,(d0 (i64.wrap (q+1)) c4/\g5 (i64.wrap (q+1)) c4<g5 q w)->a8 c4)->
 IA q l s λi6 i7=>
 ER w i6 (i7+q.toNat*6) λi9=>
 AL w ZL_i5n 45 λz k0=>
 ST k0 z 0 i9 λk1=>
 C_p 12 [.pointer r2] k1 λb3 d2=>
 Q_i 26 [.pointer r2] d2 λd3=>
 C_i 27 [.pointer r3] d2 λu d4=>
 IF b3.isNone (
 K (.bool false) d4) (
 C_l 17 [.pointer b3] d4 λb4 b5 b6 b7=>
 aO b7 z 0 λv=>
 ∀c7:tz,(∀e1 r,(∀c8:tz,(∀a7 e2,(C_p 12 [.pointer r2] e2 λn b8=>
 ∀t:tz,(∀e3 c5,(IF e3 (
 K (.bool false) c5) (
 a8 c5))->t e3 c5)->
 JF ((n.isNone=false)/\a7=true) (
 C_i 27 [.pointer r3] b8 λa3 d5=>
 JF (((n.isNone||(decide (a3<=u)))=false)/\(!a7)=true) (
 C_l 17 [.pointer n] d5 λk2 k3 k4 a4=>
 Q_b 20 (fq k2 k3 k4 b4 b5 b6) a4 λd6=>
 gQ_i ((!d6)=false) 26 [.pointer r2] a4 λk5=>
 JF (((!d6)||(!decide (k5=d3)))=false) (
 C_i 27 [.pointer r3] a4 λk6 k7=>
 t ((n.isNone||(decide (a3<=u)))||(!decide (k6=u))) k7) (
 t ((n.isNone||(decide (a3<=u)))||true) a4)) (
 t ((n.isNone||(decide (a3<=u)))||false) d5)) (
 JF (((n.isNone||false)=false)/\(!a7)=true) (
 C_l 17 [.pointer n] b8 λk8 k9 m0 a5=>
 Q_b 20 (fq k8 k9 m0 b4 b5 b6) a5 λd7=>
 gQ_i ((!d7)=false) 26 [.pointer r2] a5 λm1=>
 JF (((!d7)||(!decide (m1=d3)))=false) (
 C_i 27 [.pointer r3] a5 λm2 m3=>
 t ((n.isNone||false)||(!decide (m2=u))) m3) (
 t ((n.isNone||false)||true) a5)) (
 t ((n.isNone||false)||false) b8)))->c8 a7 e2)->
 IF e1 (
 ER r z 0 λm4=>
 C_b 14 (L_pv r2 (.agg ⟨m4⟩)) r λm5 m6=>
 c8 m5 m6) (
 ID (v=1) (
 aO r z 2 λm7=>
 tA 23 (kv r2 m7) r λd8 b9 o8 m8 m9=>
 ∃(d1:eU) (g6:ir),d1 0 m9/\
 ∀o x,d1 o x->
 ID (o<b9) (
 IA o b9 d8 λn0 n1=>
 dX x n0 (n1+o.toNat*11+10) λn2 n3 n4=>
 CF 28 ⟨[.slice n2 n3 n4]⟩ x λn5 n6=>∃e4 e5 e6 e7 e8 e9 f0 f1 f2 f3 f4 f5 f6 f7 f8 f9 g0 g1 g2 g3 y,n5=(dW (N4 e4 e5 e6 e7 e8 e9 f0 f1 f2 f3 f4 f5 f6 f7 f8 f9 g0 g1 g2 g3) y)/\
 AL n6 vU 81 λc0 n7=>
 ST n7 c0 0 (N3 e4 e5 e6 e7 e8 e9 f0 f1 f2 f3 f4 f5 f6 f7 f8 f9 g0 g1 g2 g3) λp=>
 IA o b9 d8 λn8 n9=>
 aO p n8 (n9+o.toNat*11) λa6=>
 gd_i (((!decide (a6=1))||(!decide (y=0)))=false) p c0 0 λc1=>
 gd_i ((((!decide (a6=1))||(!decide (y=0)))||(!decide (c1=3)))=false) p c0 3 λo0=>
 gQ_i ((((!decide (a6=1))||(!decide (y=0)))||(!decide (c1=3)))=false) 29 [.pointer b3] p λo1=>
 IF ((((!decide (a6=1))||(!decide (y=0)))||(!decide (c1=3)))||(!decide (o0=o1))) (
 K (.bool false) p) (
 d1 (i64.wrap (o+1)) p/\g6 (i64.wrap (o+1)) p<g6 o x)) (
 c8 (decide (m8=0)) x)) (
 ID (v=3) (
 C_l 13 [.pointer r2] r λo9 p0 p1 o2=>
 C_p 12 [.pointer r2] o2 λd9 c2=>
 ∀c9:tz,(∀g4 c6,(IF g4 (
 K (.bool false) c6) (
 a8 c6))->c9 g4 c6)->
 JF (d9.isNone=false) (
 C_l 17 [.pointer d9] c2 λo3 o4 o5 c3=>
 Q_b 20 (fq o3 o4 o5 b4 b5 b6) c3 λe0=>
 gQ_i ((!e0)=false) 26 [.pointer r2] c3 λo6=>
 c9 ((!e0)||(!decide (o6=0))) c3) (
 gQ_i (true=false) 26 [.pointer r2] c2 λo7=>
 c9 (true||(!decide (o7=0))) c2)) (
 a8 r))))->c7 e1 r)->
 ID (v=0) (
 c7 (decide (v=0)) b7) (
 c7 (decide (v=2)) b7))) (
 K (.bool true) w))))):CF 5 ⟨(L_vl (A_i13 a b c d e f g i j k a0 a1 a2) s l m)⟩ H K:=cE 0x1dd1d2156213992a1111d112152179474131115621399251b413112283c9991283c94c [[(173,sB)],[(137,sB)],[(16,sI)],[(13,sB)],[(63,sB)],[],[(7,sI)]] h
end
open Go.Shelf
def Tryz.keysA_ren:Go.Shelf.Ren:=⟨fun|7=>117|10=>215|n=>n,fun|23=>256|26=>2|3=>149|28=>262|0=>0|27=>261|33=>329|4=>4|n=>n,fun|n=>n⟩
theorem Tryz.keysA:Go.Proofs.SlLaysZI.n7 Tryz.prog Tryz.keysA_ren:={
 mixed:=by kernel_rfl
 f7:=⟨Tryz.f117.name,by decide,zt Tryz.func117⟩
 f10:=⟨Tryz.f215.name,by decide,zt Tryz.func215⟩
 t0:=Tryz.underlying0
 a0:=Tryz.isAgg0
 z0:=Tryz.sizeOf0
 v0:=Tryz.zeroValue0
 t4:=Tryz.underlying4
 a4:=Tryz.isAgg4
 z4:=Tryz.sizeOf4
 v4:=Tryz.zeroValue4
 t23:=Tryz.underlying256
 a23:=Tryz.isAgg256
 z23:=Tryz.sizeOf256
 v23:=Tryz.zeroValue256
 t26:=Tryz.underlying2
 a26:=Tryz.isAgg2
 z26:=Tryz.sizeOf2
 v26:=Tryz.zeroValue2
 t27:=Tryz.underlying261
 a27:=Tryz.isAgg261
 z27:=Tryz.sizeOf261
 v27:=Tryz.zeroValue261
 t28:=Tryz.underlying262
 a28:=Tryz.isAgg262
 z28:=Tryz.sizeOf262
 v28:=Tryz.zeroValue262
 t33:=Tryz.underlying329
 a33:=Tryz.isAgg329
 z33:=Tryz.sizeOf329
 v33:=Tryz.zeroValue329 }
def Tryz.keysA2_ren:Go.Shelf.Ren:=⟨fun|7=>216|10=>270|n=>n,fun|23=>291|26=>2|3=>99|28=>262|0=>0|27=>261|33=>329|4=>4|n=>n,fun|n=>n⟩
theorem Tryz.keysA2:Go.Proofs.SlLaysZI.n7 Tryz.prog Tryz.keysA2_ren:={
 mixed:=by kernel_rfl
 f7:=⟨Tryz.f216.name,by decide,zt Tryz.func216⟩
 f10:=⟨Tryz.f270.name,by decide,zt Tryz.func270⟩
 t0:=Tryz.underlying0
 a0:=Tryz.isAgg0
 z0:=Tryz.sizeOf0
 v0:=Tryz.zeroValue0
 t4:=Tryz.underlying4
 a4:=Tryz.isAgg4
 z4:=Tryz.sizeOf4
 v4:=Tryz.zeroValue4
 t23:=Tryz.underlying291
 a23:=Tryz.isAgg291
 z23:=Tryz.sizeOf291
 v23:=Tryz.zeroValue291
 t26:=Tryz.underlying2
 a26:=Tryz.isAgg2
 z26:=Tryz.sizeOf2
 v26:=Tryz.zeroValue2
 t27:=Tryz.underlying261
 a27:=Tryz.isAgg261
 z27:=Tryz.sizeOf261
 v27:=Tryz.zeroValue261
 t28:=Tryz.underlying262
 a28:=Tryz.isAgg262
 z28:=Tryz.sizeOf262
 v28:=Tryz.zeroValue262
 t33:=Tryz.underlying329
 a33:=Tryz.isAgg329
 z33:=Tryz.sizeOf329
 v33:=Tryz.zeroValue329 }
def Tryz.keysA3_ren:Go.Shelf.Ren:=⟨fun|7=>296|10=>338|n=>n,fun|23=>250|26=>2|3=>185|28=>262|0=>0|27=>261|33=>329|4=>4|n=>n,fun|n=>n⟩
theorem Tryz.keysA3:Go.Proofs.SlLaysZI.n7 Tryz.prog Tryz.keysA3_ren:={
 mixed:=by kernel_rfl
 f7:=⟨Tryz.f296.name,by decide,zt Tryz.func296⟩
 f10:=⟨Tryz.f338.name,by decide,zt Tryz.func338⟩
 t0:=Tryz.underlying0
 a0:=Tryz.isAgg0
 z0:=Tryz.sizeOf0
 v0:=Tryz.zeroValue0
 t4:=Tryz.underlying4
 a4:=Tryz.isAgg4
 z4:=Tryz.sizeOf4
 v4:=Tryz.zeroValue4
 t23:=Tryz.underlying250
 a23:=Tryz.isAgg250
 z23:=Tryz.sizeOf250
 v23:=Tryz.zeroValue250
 t26:=Tryz.underlying2
 a26:=Tryz.isAgg2
 z26:=Tryz.sizeOf2
 v26:=Tryz.zeroValue2
 t27:=Tryz.underlying261
 a27:=Tryz.isAgg261
 z27:=Tryz.sizeOf261
 v27:=Tryz.zeroValue261
 t28:=Tryz.underlying262
 a28:=Tryz.isAgg262
 z28:=Tryz.sizeOf262
 v28:=Tryz.zeroValue262
 t33:=Tryz.underlying329
 a33:=Tryz.isAgg329
 z33:=Tryz.sizeOf329
 v33:=Tryz.zeroValue329 }
def Tryz.sortedA_ren:Go.Shelf.Ren:=⟨fun|6=>116|8=>213|9=>214|11=>267|13=>269|12=>268|23=>314|24=>315|14=>305|15=>306|16=>307|17=>308|18=>309|19=>310|20=>311|21=>312|22=>313|25=>353|26=>354|27=>355|28=>356|29=>357|30=>273|31=>376|n=>n,fun|26=>2|28=>262|24=>248|0=>0|3=>3|37=>332|48=>331|50=>155|4=>4|40=>494|39=>493|45=>498|5=>5|9=>9|51=>537|55=>540|57=>548|58=>549|33=>329|n=>n,fun|n=>n⟩
theorem Tryz.sortedA:Go.Proofs.SlLaysZI.n6 Tryz.prog Tryz.sortedA_ren:={
 mixed:=by kernel_rfl
 f6:=⟨Tryz.f116.name,by decide,zt Tryz.func116⟩
 f8:=⟨Tryz.f213.name,by decide,zt Tryz.func213⟩
 f11:=⟨Tryz.f267.name,by decide,zt Tryz.func267⟩
 t0:=Tryz.underlying0
 a0:=Tryz.isAgg0
 z0:=Tryz.sizeOf0
 v0:=Tryz.zeroValue0
 t24:=Tryz.underlying248
 a24:=Tryz.isAgg248
 z24:=Tryz.sizeOf248
 v24:=Tryz.zeroValue248
 t26:=Tryz.underlying2
 a26:=Tryz.isAgg2
 z26:=Tryz.sizeOf2
 v26:=Tryz.zeroValue2
 t28:=Tryz.underlying262
 a28:=Tryz.isAgg262
 z28:=Tryz.sizeOf262
 v28:=Tryz.zeroValue262
 i26:=by kernel_rfl }
def Tryz.sortA_ren:Go.Shelf.Ren:=⟨fun|5=>214|8=>269|7=>268|19=>314|20=>315|10=>305|11=>306|12=>307|13=>308|14=>309|15=>310|16=>311|17=>312|18=>313|30=>353|31=>354|32=>355|33=>356|34=>357|35=>273|40=>376|n=>n,fun|23=>248|25=>2|3=>3|32=>332|22=>248|0=>0|44=>331|46=>155|4=>4|36=>494|35=>493|41=>498|5=>5|9=>9|53=>537|57=>540|63=>548|64=>549|n=>n,fun|n=>n⟩
theorem Tryz.sortA:Go.Proofs.SlLaysM.n5 Tryz.prog Tryz.sortA_ren:={
 mixed:=by kernel_rfl
 f5:=⟨Tryz.f214.name,by decide,zt Tryz.func214⟩
 f7:=⟨Tryz.f268.name,by decide,zt Tryz.func268⟩
 f8:=zt Tryz.func269
 f10:=⟨Tryz.f305.name,by decide,zt Tryz.func305⟩
 f11:=⟨Tryz.f306.name,by decide,zt Tryz.func306⟩
 f12:=⟨Tryz.f307.name,by decide,zt Tryz.func307⟩
 f13:=⟨Tryz.f308.name,by decide,zt Tryz.func308⟩
 f14:=⟨Tryz.f309.name,by decide,zt Tryz.func309⟩
 f15:=⟨Tryz.f310.name,by decide,zt Tryz.func310⟩
 f16:=⟨Tryz.f311.name,by decide,zt Tryz.func311⟩
 f17:=⟨Tryz.f312.name,by decide,zt Tryz.func312⟩
 f18:=⟨Tryz.f313.name,by decide,zt Tryz.func313⟩
 f19:=zt Tryz.func314
 f20:=zt Tryz.func315
 f30:=⟨Tryz.f353.name,by decide,zt Tryz.func353⟩
 f31:=zt Tryz.func354
 f32:=zt Tryz.func355
 f33:=⟨Tryz.f356.name,by decide,zt Tryz.func356⟩
 f34:=⟨Tryz.f357.name,by decide,zt Tryz.func357⟩
 f35:=⟨Tryz.f273.name,by decide,zt Tryz.func273⟩
 f40:=⟨Tryz.f376.name,by decide,zt Tryz.func376⟩
 t0:=Tryz.underlying0
 a0:=Tryz.isAgg0
 z0:=Tryz.sizeOf0
 v0:=Tryz.zeroValue0
 t3:=Tryz.underlying3
 a3:=Tryz.isAgg3
 z3:=Tryz.sizeOf3
 v3:=Tryz.zeroValue3
 t4:=Tryz.underlying4
 a4:=Tryz.isAgg4
 z4:=Tryz.sizeOf4
 v4:=Tryz.zeroValue4
 t5:=Tryz.underlying5
 a5:=Tryz.isAgg5
 z5:=Tryz.sizeOf5
 v5:=Tryz.zeroValue5
 t9:=Tryz.underlying9
 a9:=Tryz.isAgg9
 z9:=Tryz.sizeOf9
 v9:=Tryz.zeroValue9
 t22:=Tryz.underlying248
 a22:=Tryz.isAgg248
 z22:=Tryz.sizeOf248
 v22:=Tryz.zeroValue248
 t23:=Tryz.underlying248
 a23:=Tryz.isAgg248
 z23:=Tryz.sizeOf248
 v23:=Tryz.zeroValue248
 t25:=Tryz.underlying2
 a25:=Tryz.isAgg2
 z25:=Tryz.sizeOf2
 v25:=Tryz.zeroValue2
 t32:=Tryz.underlying332
 a32:=Tryz.isAgg332
 z32:=Tryz.sizeOf332
 v32:=Tryz.zeroValue332
 t35:=Tryz.underlying493
 a35:=Tryz.isAgg493
 z35:=Tryz.sizeOf493
 v35:=Tryz.zeroValue493
 t36:=Tryz.underlying494
 a36:=Tryz.isAgg494
 z36:=Tryz.sizeOf494
 v36:=Tryz.zeroValue494
 t41:=Tryz.underlying498
 a41:=Tryz.isAgg498
 z41:=Tryz.sizeOf498
 v41:=Tryz.zeroValue498
 t44:=Tryz.underlying331
 a44:=Tryz.isAgg331
 z44:=Tryz.sizeOf331
 v44:=Tryz.zeroValue331
 t46:=Tryz.underlying155
 a46:=Tryz.isAgg155
 z46:=Tryz.sizeOf155
 v46:=Tryz.zeroValue155
 t53:=Tryz.underlying537
 a53:=Tryz.isAgg537
 z53:=Tryz.sizeOf537
 v53:=Tryz.zeroValue537
 t57:=Tryz.underlying540
 a57:=Tryz.isAgg540
 z57:=Tryz.sizeOf540
 v57:=Tryz.zeroValue540
 t63:=Tryz.underlying548
 a63:=Tryz.isAgg548
 z63:=Tryz.sizeOf548
 v63:=Tryz.zeroValue548
 t64:=Tryz.underlying549
 a64:=Tryz.isAgg549
 z64:=Tryz.sizeOf549
 v64:=Tryz.zeroValue549 }
def Tryz.cloneA_ren:Go.Shelf.Ren:=⟨fun|5=>115|7=>212|n=>n,fun|23=>256|25=>2|3=>149|4=>4|20=>20|n=>n,fun|n=>n⟩
theorem Tryz.cloneA:Go.Proofs.SlLaysW.n5 Tryz.prog Tryz.cloneA_ren:={
 mixed:=by kernel_rfl
 f5:=⟨Tryz.f115.name,by decide,zt Tryz.func115⟩
 f7:=zt Tryz.func212
 t4:=Tryz.underlying4
 a4:=Tryz.isAgg4
 z4:=Tryz.sizeOf4
 v4:=Tryz.zeroValue4
 t20:=Tryz.underlying20
 a20:=Tryz.isAgg20
 z20:=Tryz.sizeOf20
 v20:=Tryz.zeroValue20
 t23:=Tryz.underlying256
 a23:=Tryz.isAgg256
 z23:=Tryz.sizeOf256
 v23:=Tryz.zeroValue256 }
def Tryz.cloneA2_ren:Go.Shelf.Ren:=⟨fun|5=>133|7=>212|n=>n,fun|23=>250|25=>2|3=>185|4=>4|20=>20|n=>n,fun|n=>n⟩
theorem Tryz.cloneA2:Go.Proofs.SlLaysW.n5 Tryz.prog Tryz.cloneA2_ren:={
 mixed:=by kernel_rfl
 f5:=⟨Tryz.f133.name,by decide,zt Tryz.func133⟩
 f7:=zt Tryz.func212
 t4:=Tryz.underlying4
 a4:=Tryz.isAgg4
 z4:=Tryz.sizeOf4
 v4:=Tryz.zeroValue4
 t20:=Tryz.underlying20
 a20:=Tryz.isAgg20
 z20:=Tryz.sizeOf20
 v20:=Tryz.zeroValue20
 t23:=Tryz.underlying250
 a23:=Tryz.isAgg250
 z23:=Tryz.sizeOf250
 v23:=Tryz.zeroValue250 }
def Tryz.cloneA3_ren:Go.Shelf.Ren:=⟨fun|5=>135|7=>212|n=>n,fun|23=>291|25=>2|3=>99|4=>4|20=>20|n=>n,fun|n=>n⟩
theorem Tryz.cloneA3:Go.Proofs.SlLaysW.n5 Tryz.prog Tryz.cloneA3_ren:={
 mixed:=by kernel_rfl
 f5:=⟨Tryz.f135.name,by decide,zt Tryz.func135⟩
 f7:=zt Tryz.func212
 t4:=Tryz.underlying4
 a4:=Tryz.isAgg4
 z4:=Tryz.sizeOf4
 v4:=Tryz.zeroValue4
 t20:=Tryz.underlying20
 a20:=Tryz.isAgg20
 z20:=Tryz.sizeOf20
 v20:=Tryz.zeroValue20
 t23:=Tryz.underlying291
 a23:=Tryz.isAgg291
 z23:=Tryz.sizeOf291
 v23:=Tryz.zeroValue291 }
def Tryz.joinB_ren:Go.Shelf.Ren:=⟨fun|14=>255|15=>298|n=>n,fun|26=>224|22=>43|3=>3|4=>4|0=>0|9=>9|20=>20|5=>5|n=>n,fun|n=>n⟩
theorem Tryz.joinB:Go.Proofs.SlLaysJ.n14 Tryz.prog Tryz.joinB_ren:={
 mixed:=by kernel_rfl
 f14:=zt Tryz.func255
 f15:=zt Tryz.func298
 t0:=Tryz.underlying0
 a0:=Tryz.isAgg0
 z0:=Tryz.sizeOf0
 v0:=Tryz.zeroValue0
 t3:=Tryz.underlying3
 a3:=Tryz.isAgg3
 z3:=Tryz.sizeOf3
 v3:=Tryz.zeroValue3
 t4:=Tryz.underlying4
 a4:=Tryz.isAgg4
 z4:=Tryz.sizeOf4
 v4:=Tryz.zeroValue4
 t9:=Tryz.underlying9
 a9:=Tryz.isAgg9
 z9:=Tryz.sizeOf9
 v9:=Tryz.zeroValue9
 t20:=Tryz.underlying20
 a20:=Tryz.isAgg20
 z20:=Tryz.sizeOf20
 v20:=Tryz.zeroValue20
 t22:=Tryz.underlying43
 a22:=Tryz.isAgg43
 z22:=Tryz.sizeOf43
 v22:=Tryz.zeroValue43
 t26:=Tryz.underlying224
 a26:=Tryz.isAgg224
 z26:=Tryz.sizeOf224
 v26:=Tryz.zeroValue224
 t5:=Tryz.underlying5
 z5:=Tryz.sizeOf5
 i5:=by kernel_rfl }
open Go.Shelf
def Tryz.sortI_ren:Go.Shelf.Ren:=⟨fun|5=>256|8=>269|7=>299|19=>314|20=>315|10=>339|11=>340|12=>341|13=>342|14=>343|15=>344|16=>345|17=>346|18=>347|30=>368|31=>354|32=>355|33=>369|34=>370|35=>371|40=>380|n=>n,fun|23=>377|25=>3|3=>3|32=>332|22=>377|0=>0|44=>331|46=>155|4=>4|36=>494|35=>493|41=>498|5=>5|9=>9|53=>537|57=>540|63=>548|64=>549|n=>n,fun|n=>n⟩
theorem Tryz.sortI:Go.Proofs.SlLaysM.n5 Tryz.prog Tryz.sortI_ren:={
 mixed:=by kernel_rfl
 f5:=⟨Tryz.f256.name,by decide,zt Tryz.func256⟩
 f7:=⟨Tryz.f299.name,by decide,zt Tryz.func299⟩
 f8:=zt Tryz.func269
 f10:=⟨Tryz.f339.name,by decide,zt Tryz.func339⟩
 f11:=⟨Tryz.f340.name,by decide,zt Tryz.func340⟩
 f12:=⟨Tryz.f341.name,by decide,zt Tryz.func341⟩
 f13:=⟨Tryz.f342.name,by decide,zt Tryz.func342⟩
 f14:=⟨Tryz.f343.name,by decide,zt Tryz.func343⟩
 f15:=⟨Tryz.f344.name,by decide,zt Tryz.func344⟩
 f16:=⟨Tryz.f345.name,by decide,zt Tryz.func345⟩
 f17:=⟨Tryz.f346.name,by decide,zt Tryz.func346⟩
 f18:=⟨Tryz.f347.name,by decide,zt Tryz.func347⟩
 f19:=zt Tryz.func314
 f20:=zt Tryz.func315
 f30:=⟨Tryz.f368.name,by decide,zt Tryz.func368⟩
 f31:=zt Tryz.func354
 f32:=zt Tryz.func355
 f33:=⟨Tryz.f369.name,by decide,zt Tryz.func369⟩
 f34:=⟨Tryz.f370.name,by decide,zt Tryz.func370⟩
 f35:=⟨Tryz.f371.name,by decide,zt Tryz.func371⟩
 f40:=⟨Tryz.f380.name,by decide,zt Tryz.func380⟩
 t0:=Tryz.underlying0
 a0:=Tryz.isAgg0
 z0:=Tryz.sizeOf0
 v0:=Tryz.zeroValue0
 t3:=Tryz.underlying3
 a3:=Tryz.isAgg3
 z3:=Tryz.sizeOf3
 v3:=Tryz.zeroValue3
 t4:=Tryz.underlying4
 a4:=Tryz.isAgg4
 z4:=Tryz.sizeOf4
 v4:=Tryz.zeroValue4
 t5:=Tryz.underlying5
 a5:=Tryz.isAgg5
 z5:=Tryz.sizeOf5
 v5:=Tryz.zeroValue5
 t9:=Tryz.underlying9
 a9:=Tryz.isAgg9
 z9:=Tryz.sizeOf9
 v9:=Tryz.zeroValue9
 t22:=Tryz.underlying377
 a22:=Tryz.isAgg377
 z22:=Tryz.sizeOf377
 v22:=Tryz.zeroValue377
 t23:=Tryz.underlying377
 a23:=Tryz.isAgg377
 z23:=Tryz.sizeOf377
 v23:=Tryz.zeroValue377
 t25:=Tryz.underlying3
 a25:=Tryz.isAgg3
 z25:=Tryz.sizeOf3
 v25:=Tryz.zeroValue3
 t32:=Tryz.underlying332
 a32:=Tryz.isAgg332
 z32:=Tryz.sizeOf332
 v32:=Tryz.zeroValue332
 t35:=Tryz.underlying493
 a35:=Tryz.isAgg493
 z35:=Tryz.sizeOf493
 v35:=Tryz.zeroValue493
 t36:=Tryz.underlying494
 a36:=Tryz.isAgg494
 z36:=Tryz.sizeOf494
 v36:=Tryz.zeroValue494
 t41:=Tryz.underlying498
 a41:=Tryz.isAgg498
 z41:=Tryz.sizeOf498
 v41:=Tryz.zeroValue498
 t44:=Tryz.underlying331
 a44:=Tryz.isAgg331
 z44:=Tryz.sizeOf331
 v44:=Tryz.zeroValue331
 t46:=Tryz.underlying155
 a46:=Tryz.isAgg155
 z46:=Tryz.sizeOf155
 v46:=Tryz.zeroValue155
 t53:=Tryz.underlying537
 a53:=Tryz.isAgg537
 z53:=Tryz.sizeOf537
 v53:=Tryz.zeroValue537
 t57:=Tryz.underlying540
 a57:=Tryz.isAgg540
 z57:=Tryz.sizeOf540
 v57:=Tryz.zeroValue540
 t63:=Tryz.underlying548
 a63:=Tryz.isAgg548
 z63:=Tryz.sizeOf548
 v63:=Tryz.zeroValue548
 t64:=Tryz.underlying549
 a64:=Tryz.isAgg549
 z64:=Tryz.sizeOf549
 v64:=Tryz.zeroValue549 }
open Go.Shelf
def Tryz.sortKA_ren:Go.Shelf.Ren:=⟨fun|6=>218|15=>269|14=>272|28=>314|29=>315|20=>316|21=>317|22=>318|23=>319|24=>320|25=>321|26=>322|27=>323|46=>358|47=>354|48=>355|49=>359|50=>360|57=>377|n=>n,fun|22=>277|24=>154|25=>282|3=>3|39=>332|0=>0|53=>331|55=>155|4=>4|46=>494|45=>493|50=>498|5=>5|9=>9|66=>537|70=>540|76=>548|77=>549|n=>n,fun|n=>n⟩
theorem Tryz.sortKA:Go.Proofs.SlLaysF0.n6 Tryz.prog Tryz.sortKA_ren:={
 mixed:=by kernel_rfl
 f6:=⟨Tryz.f218.name,by decide,zt Tryz.func218⟩
 f14:=⟨Tryz.f272.name,by decide,zt Tryz.func272⟩
 f15:=zt Tryz.func269
 f20:=⟨Tryz.f316.name,by decide,zt Tryz.func316⟩
 f21:=⟨Tryz.f317.name,by decide,zt Tryz.func317⟩
 f22:=⟨Tryz.f318.name,by decide,zt Tryz.func318⟩
 f23:=⟨Tryz.f319.name,by decide,zt Tryz.func319⟩
 f24:=⟨Tryz.f320.name,by decide,zt Tryz.func320⟩
 f25:=⟨Tryz.f321.name,by decide,zt Tryz.func321⟩
 f26:=⟨Tryz.f322.name,by decide,zt Tryz.func322⟩
 f27:=⟨Tryz.f323.name,by decide,zt Tryz.func323⟩
 f28:=zt Tryz.func314
 f29:=zt Tryz.func315
 f46:=⟨Tryz.f358.name,by decide,zt Tryz.func358⟩
 f47:=zt Tryz.func354
 f48:=zt Tryz.func355
 f49:=⟨Tryz.f359.name,by decide,zt Tryz.func359⟩
 f50:=⟨Tryz.f360.name,by decide,zt Tryz.func360⟩
 f57:=⟨Tryz.f377.name,by decide,zt Tryz.func377⟩
 t0:=Tryz.underlying0
 a0:=Tryz.isAgg0
 z0:=Tryz.sizeOf0
 v0:=Tryz.zeroValue0
 t3:=Tryz.underlying3
 a3:=Tryz.isAgg3
 z3:=Tryz.sizeOf3
 v3:=Tryz.zeroValue3
 t4:=Tryz.underlying4
 a4:=Tryz.isAgg4
 z4:=Tryz.sizeOf4
 v4:=Tryz.zeroValue4
 t5:=Tryz.underlying5
 a5:=Tryz.isAgg5
 z5:=Tryz.sizeOf5
 v5:=Tryz.zeroValue5
 t9:=Tryz.underlying9
 a9:=Tryz.isAgg9
 z9:=Tryz.sizeOf9
 v9:=Tryz.zeroValue9
 t22:=Tryz.underlying277
 a22:=Tryz.isAgg277
 z22:=Tryz.sizeOf277
 v22:=Tryz.zeroValue277
 t25:=Tryz.underlying282
 a25:=Tryz.isAgg282
 z25:=Tryz.sizeOf282
 v25:=Tryz.zeroValue282
 t39:=Tryz.underlying332
 a39:=Tryz.isAgg332
 z39:=Tryz.sizeOf332
 v39:=Tryz.zeroValue332
 t45:=Tryz.underlying493
 a45:=Tryz.isAgg493
 z45:=Tryz.sizeOf493
 v45:=Tryz.zeroValue493
 t46:=Tryz.underlying494
 a46:=Tryz.isAgg494
 z46:=Tryz.sizeOf494
 v46:=Tryz.zeroValue494
 t50:=Tryz.underlying498
 a50:=Tryz.isAgg498
 z50:=Tryz.sizeOf498
 v50:=Tryz.zeroValue498
 t53:=Tryz.underlying331
 a53:=Tryz.isAgg331
 z53:=Tryz.sizeOf331
 v53:=Tryz.zeroValue331
 t55:=Tryz.underlying155
 a55:=Tryz.isAgg155
 z55:=Tryz.sizeOf155
 v55:=Tryz.zeroValue155
 t66:=Tryz.underlying537
 a66:=Tryz.isAgg537
 z66:=Tryz.sizeOf537
 v66:=Tryz.zeroValue537
 t70:=Tryz.underlying540
 a70:=Tryz.isAgg540
 z70:=Tryz.sizeOf540
 v70:=Tryz.zeroValue540
 t76:=Tryz.underlying548
 a76:=Tryz.isAgg548
 z76:=Tryz.sizeOf548
 v76:=Tryz.zeroValue548
 t77:=Tryz.underlying549
 a77:=Tryz.isAgg549
 z77:=Tryz.sizeOf549
 v77:=Tryz.zeroValue549 }
def Tryz.cloneA4_ren:Go.Shelf.Ren:=⟨fun|5=>127|7=>212|n=>n,fun|23=>272|25=>154|3=>161|4=>4|20=>20|n=>n,fun|n=>n⟩
theorem Tryz.cloneA4:Go.Proofs.SlLaysW.n5 Tryz.prog Tryz.cloneA4_ren:={
 mixed:=by kernel_rfl
 f5:=⟨Tryz.f127.name,by decide,zt Tryz.func127⟩
 f7:=zt Tryz.func212
 t4:=Tryz.underlying4
 a4:=Tryz.isAgg4
 z4:=Tryz.sizeOf4
 v4:=Tryz.zeroValue4
 t20:=Tryz.underlying20
 a20:=Tryz.isAgg20
 z20:=Tryz.sizeOf20
 v20:=Tryz.zeroValue20
 t23:=Tryz.underlying272
 a23:=Tryz.isAgg272
 z23:=Tryz.sizeOf272
 v23:=Tryz.zeroValue272 }
def Tryz.joinA_ren:Go.Shelf.Ren:=⟨fun|156=>289|165=>333|166=>334|169=>335|240=>365|241=>366|276=>379|277=>298|n=>n,fun|31=>408|9=>9|3=>3|4=>4|0=>0|20=>20|72=>519|76=>522|70=>517|37=>43|75=>521|127=>544|164=>552|5=>5|80=>422|n=>n,fun|n=>n⟩
theorem Tryz.joinA:Go.Proofs.Lays.n156 Tryz.prog Tryz.joinA_ren:={
 mixed:=by kernel_rfl
 f156:=zt Tryz.func289
 f165:=zt Tryz.func333
 f166:=zt Tryz.func334
 f169:=zt Tryz.func335
 f240:=zt Tryz.func365
 f241:=zt Tryz.func366
 f276:=zt Tryz.func379
 f277:=zt Tryz.func298
 t0:=Tryz.underlying0
 a0:=Tryz.isAgg0
 z0:=Tryz.sizeOf0
 v0:=Tryz.zeroValue0
 t3:=Tryz.underlying3
 a3:=Tryz.isAgg3
 z3:=Tryz.sizeOf3
 v3:=Tryz.zeroValue3
 t4:=Tryz.underlying4
 a4:=Tryz.isAgg4
 z4:=Tryz.sizeOf4
 v4:=Tryz.zeroValue4
 t9:=Tryz.underlying9
 a9:=Tryz.isAgg9
 z9:=Tryz.sizeOf9
 v9:=Tryz.zeroValue9
 t20:=Tryz.underlying20
 a20:=Tryz.isAgg20
 z20:=Tryz.sizeOf20
 v20:=Tryz.zeroValue20
 t31:=Tryz.underlying408
 a31:=Tryz.isAgg408
 z31:=Tryz.sizeOf408
 v31:=Tryz.zeroValue408
 t37:=Tryz.underlying43
 a37:=Tryz.isAgg43
 z37:=Tryz.sizeOf43
 v37:=Tryz.zeroValue43
 t70:=Tryz.underlying517
 a70:=Tryz.isAgg517
 z70:=Tryz.sizeOf517
 v70:=Tryz.zeroValue517
 t72:=Tryz.underlying519
 a72:=Tryz.isAgg519
 z72:=Tryz.sizeOf519
 v72:=Tryz.zeroValue519
 t75:=Tryz.underlying521
 a75:=Tryz.isAgg521
 z75:=Tryz.sizeOf521
 v75:=Tryz.zeroValue521
 t76:=Tryz.underlying522
 a76:=Tryz.isAgg522
 z76:=Tryz.sizeOf522
 v76:=Tryz.zeroValue522
 t127:=Tryz.underlying544
 a127:=Tryz.isAgg544
 z127:=Tryz.sizeOf544
 v127:=Tryz.zeroValue544
 t164:=Tryz.underlying552
 a164:=Tryz.isAgg552
 z164:=Tryz.sizeOf552
 v164:=Tryz.zeroValue552 }
open  Go.RowKit Go.Maps Go.Sort Go.Shelf
theorem jg{P:Program}{f:FuncId}{args:Array Value}{w:World}{K:KE}{Q:Ending->World->Prop}(h:Calls P f args w Q)(b:∀e a,Q e a->∃v,e=.returned v/\bV w a/\K v a.heap):Calls P f args w (Fin w K):=
 h.mono λe a i=>by
  obtain⟨v,rfl,d,c⟩:=b e a i;exact⟨d,c⟩
theorem zc(m:Nat):AnyZI.SortsIn Tryz.prog Tryz.sortedA_ren Fence.wide m:=
 ⟨λblk off cap d W c a b=>callsIn_wide.2 (AnyM.slices_Sort_int Tryz.sortA blk off cap d W c a b),
  λp cap W=>callsIn_wide.2 (AnyM.slices_Sort_int_none Tryz.sortA p cap W)⟩
theorem OI{H:aC}{mb:Option Nat}{K:KE}(k:K (.func (.func 215) #[] #[.pointer (some ⟨H.size,0,none⟩)]) (H.push (.cells #[.map mb] 256))) :
  CF 117 #[.map mb] H K:=by
 refine .mk λw a=>?_
 subst a;have h:=(callsIn_wide (n:=5)).1 (AnyZI.keys_in Tryz.keysA Fence.wide 5 trivial rfl mb w);refine jg h ?_;rintro e b ⟨rfl,rfl⟩;exact⟨_,rfl,⟨rfl,rfl,rfl⟩,k⟩
theorem OJ{α:Type}{venc:α->Value}{H:aC}{L:List aE}{r:Nat}{m:List (Int×α)}(h:aA H L)(i:Nat)(O:aW i L=mapA (Value.int .i64) venc r m)(N:∀x∈aG m,aF x)(R:m.length<=17592186044416){K:KE}
  (k:∀a c B,aA B (slA 2 1 a m.length c ((sortI (aG m)).map (Value.int .i64))::L)->dC H B->K (.slice a m.length c) B) :
  CF 116 #[.func (.func 215) #[] #[.pointer (some ⟨H.size,0,none⟩)]] (H.push (.cells #[.map (some r)] 256)) K:=by
 refine .mk λw A=>?_
 have g:dC H w.heap:=by rw[A];exact dC.push _ _
 have G:aA w.heap L:=h.grow g;have M:=G.foc i;rw[O]at M;obtain⟨C,s,d,u⟩:=yB (k:=2) Tryz.underlying2 M N (by unfold maxLen;omega);have b:w.cell? ⟨H.size,0,none⟩=some (.map (some r)):=by
  simp[World.cell?,A]
 have t:SeqGives Fence.wide 2 Tryz.prog 215 #[.pointer (some ⟨H.size,0,none⟩)] encZ (λf=>f.Perm (intKeys C)) (Maps.size C) w:=
  AnyZI.keys_gives (ρ:=Tryz.keysA_ren) { Tryz.keysA with } Fence.wide _ trivial rfl (by omega) H.size r m.length C w (by rw[A];simp) b s
 have D:=AnyZI.sorted_in Tryz.sortedA Fence.wide 5 trivial trivial trivial trivial rfl (by omega) (zc _) (enters_of Tryz.func214 (by kernel_rfl) rfl) 215 #[.pointer (some ⟨H.size,0,none⟩)] trivial (enters_of Tryz.func215 (by kernel_rfl) rfl) _ _ (by unfold maxLen;omega) (by omega) w t;change CallsIn _ _ Tryz.prog 116 _ _ _ at D;refine jg ((callsIn_wide (n:=5)).1 D) ?_;rintro e S ⟨v,f,rfl,P,j,I,hb⟩;obtain⟨a,c,rfl,J⟩:=G.of_row hb j;have F:f.Perm (aG m):=P.trans d;have E:f.length=m.length:=by rw[F.length_eq];simp[aG]
 have Q:f.mergeSort (λx y=>decide (x<=y))=sortI (aG m):=vF F
 rw[Q,E]at J;refine⟨_,rfl,tn hb,?_⟩;rw[E];exact k a c _ J (g.trans (rp hb))
theorem ES{α:Type}{venc:α->Value}{H:aC}{L:List aE}{r:Nat}{m:List (Int×α)}(h:aA H L)(i:Nat)(t:aW i L=mapA (Value.int .i64) venc r m){K:KE}
  (k:∀c,aA c (mapA (Value.int .i64) venc H.size m::L)->dC H c->K (.map (some H.size)) c) :
  CF 115 #[.map (some r)] H K:=by
 refine .mk λw u=>?_
 subst u;have d:=h.foc i;rw[t]at d;obtain⟨v,b,a,y,n,f,s⟩:=me d;have j:=AnyW.maps_Clone Tryz.cloneA r b a w s.get;refine jg j ?_;rintro e A ⟨rfl,rfl⟩;refine⟨_,rfl,⟨rfl,rfl,rfl⟩,k _ ?_ (dC.push _ _)⟩;exact (h.push (.map b a)).mono λp x=>⟨v,b,a,y,n,f,x⟩
theorem OK{H:aC}{mb:Option Nat}{K:KE}(k:K (.func (.func 270) #[] #[.pointer (some ⟨H.size,0,none⟩)]) (H.push (.cells #[.map mb] 291))) :
  CF 216 #[.map mb] H K:=by
 refine .mk λw a=>?_
 subst a;have h:=(callsIn_wide (n:=5)).1 (AnyZI.keys_in Tryz.keysA2 Fence.wide 5 trivial rfl mb w);refine jg h ?_;rintro e b ⟨rfl,rfl⟩;exact⟨_,rfl,⟨rfl,rfl,rfl⟩,k⟩
theorem OL{α:Type}{venc:α->Value}{H:aC}{L:List aE}{r:Nat}{m:List (Int×α)}(h:aA H L)(i:Nat)(O:aW i L=mapA (Value.int .i64) venc r m)(N:∀x∈aG m,aF x)(R:m.length<=17592186044416){K:KE}
  (k:∀a c B,aA B (slA 2 1 a m.length c ((sortI (aG m)).map (Value.int .i64))::L)->dC H B->K (.slice a m.length c) B) :
  CF 116 #[.func (.func 270) #[] #[.pointer (some ⟨H.size,0,none⟩)]] (H.push (.cells #[.map (some r)] 291)) K:=by
 refine .mk λw A=>?_
 have g:dC H w.heap:=by rw[A];exact dC.push _ _
 have G:aA w.heap L:=h.grow g;have M:=G.foc i;rw[O]at M;obtain⟨C,s,d,u⟩:=yB (k:=2) Tryz.underlying2 M N (by unfold maxLen;omega);have b:w.cell? ⟨H.size,0,none⟩=some (.map (some r)):=by
  simp[World.cell?,A]
 have t:SeqGives Fence.wide 2 Tryz.prog 270 #[.pointer (some ⟨H.size,0,none⟩)] encZ (λf=>f.Perm (intKeys C)) (Maps.size C) w:=
  AnyZI.keys_gives (ρ:=Tryz.keysA2_ren) { Tryz.keysA2 with } Fence.wide _ trivial rfl (by omega) H.size r m.length C w (by rw[A];simp) b s
 have D:=AnyZI.sorted_in Tryz.sortedA Fence.wide 5 trivial trivial trivial trivial rfl (by omega) (zc _) (enters_of Tryz.func214 (by kernel_rfl) rfl) 270 #[.pointer (some ⟨H.size,0,none⟩)] trivial (enters_of Tryz.func270 (by kernel_rfl) rfl) _ _ (by unfold maxLen;omega) (by omega) w t;change CallsIn _ _ Tryz.prog 116 _ _ _ at D;refine jg ((callsIn_wide (n:=5)).1 D) ?_;rintro e S ⟨v,f,rfl,P,j,I,hb⟩;obtain⟨a,c,rfl,J⟩:=G.of_row hb j;have F:f.Perm (aG m):=P.trans d;have E:f.length=m.length:=by rw[F.length_eq];simp[aG]
 have Q:f.mergeSort (λx y=>decide (x<=y))=sortI (aG m):=vF F
 rw[Q,E]at J;refine⟨_,rfl,tn hb,?_⟩;rw[E];exact k a c _ J (g.trans (rp hb))
theorem OM{α:Type}{venc:α->Value}{H:aC}{L:List aE}{r:Nat}{m:List (Int×α)}(h:aA H L)(i:Nat)(t:aW i L=mapA (Value.int .i64) venc r m){K:KE}
  (k:∀c,aA c (mapA (Value.int .i64) venc H.size m::L)->dC H c->K (.map (some H.size)) c) :
  CF 135 #[.map (some r)] H K:=by
 refine .mk λw u=>?_
 subst u;have d:=h.foc i;rw[t]at d;obtain⟨v,b,a,y,n,f,s⟩:=me d;have j:=AnyW.maps_Clone Tryz.cloneA3 r b a w s.get;refine jg j ?_;rintro e A ⟨rfl,rfl⟩;refine⟨_,rfl,⟨rfl,rfl,rfl⟩,k _ ?_ (dC.push _ _)⟩;exact (h.push (.map b a)).mono λp x=>⟨v,b,a,y,n,f,x⟩
theorem ON{H:aC}{mb:Option Nat}{K:KE}(k:K (.func (.func 338) #[] #[.pointer (some ⟨H.size,0,none⟩)]) (H.push (.cells #[.map mb] 250))) :
  CF 296 #[.map mb] H K:=by
 refine .mk λw a=>?_
 subst a;have h:=(callsIn_wide (n:=5)).1 (AnyZI.keys_in Tryz.keysA3 Fence.wide 5 trivial rfl mb w);refine jg h ?_;rintro e b ⟨rfl,rfl⟩;exact⟨_,rfl,⟨rfl,rfl,rfl⟩,k⟩
theorem OO{α:Type}{venc:α->Value}{H:aC}{L:List aE}{r:Nat}{m:List (Int×α)}(h:aA H L)(i:Nat)(O:aW i L=mapA (Value.int .i64) venc r m)(N:∀x∈aG m,aF x)(R:m.length<=17592186044416){K:KE}
  (k:∀a c B,aA B (slA 2 1 a m.length c ((sortI (aG m)).map (Value.int .i64))::L)->dC H B->K (.slice a m.length c) B) :
  CF 116 #[.func (.func 338) #[] #[.pointer (some ⟨H.size,0,none⟩)]] (H.push (.cells #[.map (some r)] 250)) K:=by
 refine .mk λw A=>?_
 have g:dC H w.heap:=by rw[A];exact dC.push _ _
 have G:aA w.heap L:=h.grow g;have M:=G.foc i;rw[O]at M;obtain⟨C,s,d,u⟩:=yB (k:=2) Tryz.underlying2 M N (by unfold maxLen;omega);have b:w.cell? ⟨H.size,0,none⟩=some (.map (some r)):=by
  simp[World.cell?,A]
 have t:SeqGives Fence.wide 2 Tryz.prog 338 #[.pointer (some ⟨H.size,0,none⟩)] encZ (λf=>f.Perm (intKeys C)) (Maps.size C) w:=
  AnyZI.keys_gives (ρ:=Tryz.keysA3_ren) { Tryz.keysA3 with } Fence.wide _ trivial rfl (by omega) H.size r m.length C w (by rw[A];simp) b s
 have D:=AnyZI.sorted_in Tryz.sortedA Fence.wide 5 trivial trivial trivial trivial rfl (by omega) (zc _) (enters_of Tryz.func214 (by kernel_rfl) rfl) 338 #[.pointer (some ⟨H.size,0,none⟩)] trivial (enters_of Tryz.func338 (by kernel_rfl) rfl) _ _ (by unfold maxLen;omega) (by omega) w t;change CallsIn _ _ Tryz.prog 116 _ _ _ at D;refine jg ((callsIn_wide (n:=5)).1 D) ?_;rintro e S ⟨v,f,rfl,P,j,I,hb⟩;obtain⟨a,c,rfl,J⟩:=G.of_row hb j;have F:f.Perm (aG m):=P.trans d;have E:f.length=m.length:=by rw[F.length_eq];simp[aG]
 have Q:f.mergeSort (λx y=>decide (x<=y))=sortI (aG m):=vF F
 rw[Q,E]at J;refine⟨_,rfl,tn hb,?_⟩;rw[E];exact k a c _ J (g.trans (rp hb))
theorem ET{α:Type}{venc:α->Value}{H:aC}{L:List aE}{r:Nat}{m:List (Int×α)}(h:aA H L)(i:Nat)(t:aW i L=mapA (Value.int .i64) venc r m){K:KE}
  (k:∀c,aA c (mapA (Value.int .i64) venc H.size m::L)->dC H c->K (.map (some H.size)) c) :
  CF 133 #[.map (some r)] H K:=by
 refine .mk λw u=>?_
 subst u;have d:=h.foc i;rw[t]at d;obtain⟨v,b,a,y,n,f,s⟩:=me d;have j:=AnyW.maps_Clone Tryz.cloneA2 r b a w s.get;refine jg j ?_;rintro e A ⟨rfl,rfl⟩;refine⟨_,rfl,⟨rfl,rfl,rfl⟩,k _ ?_ (dC.push _ _)⟩;exact (h.push (.map b a)).mono λp x=>⟨v,b,a,y,n,f,x⟩
theorem OP(pre cs post:Os)(ys:List Int)(c:ys.length=cs.length) :
  putCells (Value.int .i64) pre.length ys.toArray (pre++cs++post).toArray=(pre++ys.map (Value.int .i64)++post).toArray:=by
 apply Array.ext';apply Wu;intro j;simp only[putCells,List.size_toArray];rw[Array.getElem?_toList,Array.getElem?_mapIdx,List.getElem?_toArray];rw[Vj,Vj]
 by_cases h1:j<pre.length
 .have e1:(pre++(cs++post))[j]?=some pre[j]:=by rw[List.getElem?_append_left h1,List.getElem?_eq_getElem h1]
  have e2:(pre++(ys.map (Value.int .i64)++post))[j]?=some pre[j]:=by rw[List.getElem?_append_left h1,List.getElem?_eq_getElem h1]
  rw[e1,e2];simp only[V9];rw[nO]
 .have e1:(pre++(cs++post))[j]?=(cs++post)[j-pre.length]?:=List.getElem?_append_right (by omega);have e2:(pre++(ys.map (Value.int .i64)++post))[j]?=(ys.map (Value.int .i64)++post)[j-pre.length]?:=List.getElem?_append_right (by omega);rw[e1,e2]
  by_cases h2:j<pre.length+ys.length
  .have b:j-pre.length<cs.length:=by omega
   have a:j-pre.length<ys.length:=by omega
   have e3:(cs++post)[j-pre.length]?=some cs[j-pre.length]:=by rw[List.getElem?_append_left b,List.getElem?_eq_getElem b]
   have e4:(ys.map (Value.int .i64)++post)[j-pre.length]?=some (.int .i64 ys[j-pre.length]):=by rw[List.getElem?_append_left (by simpa using a),List.getElem?_map,List.getElem?_eq_getElem a];rfl
   rw[e3,e4];simp only[V9];rw[UX ⟨by omega,h2⟩];simp[a]
  .have e3:(cs++post)[j-pre.length]?=post[j-pre.length-cs.length]?:=List.getElem?_append_right (by omega);have e4:(ys.map (Value.int .i64)++post)[j-pre.length]?=post[j-pre.length-cs.length]?:=by rw[List.getElem?_append_right (by simp;omega),Vl,c]
   rw[e3,e4]
   cases hp:post[j-pre.length-cs.length]? with
   | none=>rfl
   | some v=>
    simp only[V9];rw[nO]
theorem sl32:SlT Tryz.prog 43 5 1 1:=iM (by kernel_rfl)
section
variable {F L:List aE}{H:aC}{K:KE}
theorem zd{a:KQ}{c:Nat}{bs:List Int}(h:aA H L)(j:∀H,aA H L->aP H a (bs.map U8))(w:bs.length<=1099511627776)
  (k:∀e d f,aA f (slA 5 1 e bs.length d (bs.map U8)::L)->K (.slice e bs.length d) f):CF 166 #[.slice a bs.length c] H K:=by
 refine cM 166 476 ⟨λi=>?_,λi=>?_⟩
 .have:a=none:=by simpa using i
  subst this;have t:=nV (j H h);have:bs=[]:=by simpa using t
  subst this;exact k none 0 H (h.sl_nil 5 1)
 .refine h.al λb _ h=>?_
  have u:=j _ h.tl;have v:=aA.sl_pt (cs:=[]) h 1 0 rfl;refine aA.append (m:=bs.length) sl32 v 0 rfl u (by simp) (nu (λ_=>rfl) _) (by omega) (by omega) λe d f s=>⟨_,_,_,rfl,?_⟩
  have n:aA f (slA 5 1 e (0+bs.length) d ([]++bs.map U8)::L):=s;rw[Vw,VB]at n;have:=k e d f n;rw[<-Vw bs.length]at this;exact this
end
theorem slB0{a:KQ}{c s:Nat}(h:a=some ⟨aV a,aS a,none⟩):bZ a 0 c s=a:=by
 unfold bZ
 split
 .rfl
 .rw [h,V9,W8,iN];rfl
section
variable {F L:List aE}{H:aC}{K:KE}
theorem EU{H:aC}{a b:KQ}{c d:Nat}{xs ys:List Int}(x:aP H a (xs.map U8))(hb:aP H b (ys.map U8))(y:xs.length<=1099511627776) :
  bU Tryz.prog 20 #[.slice a xs.length c,.slice b ys.length d] H (.bool (decide (xs=ys))):=by
 unfold bU;refine cN 20 0x1d21562139925b4c [[(5,sI)]] ?_;refine⟨λn=>?_,λn=>?_⟩
 .have:xs.length≠ys.length:=by simp at n;omega
  refine⟨?_,rfl⟩;rw[VK (λe=>this (by rw[e]))];rfl
 .have w:xs.length=ys.length:=by simp at n;omega
  refine⟨λi v=>v=H/\∃k:Nat,i=k/\k<=xs.length/\xs.take k=ys.take k,λi _=>xs.length-i.toNat,⟨rfl,0,rfl,V3 _,rfl⟩,?_⟩
  rintro i v ⟨rfl,k,rfl,A,s⟩;refine⟨λf=>?_,λf=>?_⟩
  .have m:k<xs.length:=by simpa using f
   have u:=x.at m;have t:=hb.at (j:=k) (by omega);have e3:i64.wrap ((k:Int)+1)=((k+1:Nat):Int):=aJ;refine⟨⟨by omega,by omega⟩,_,_,u.1,_,u.2,⟨by omega,by omega⟩,_,_,t.1,_,t.2,λh=>?_,λh=>?_⟩
   .have:xs[k]≠ys[k]:=by simpa using h
    refine⟨?_,rfl⟩;rw[VK (λe=>this (by simp[e]))];rfl
   .have:xs[k]=ys[k]:=by simpa using h
    conv=>whnf
    rw[e3];refine⟨⟨rfl,k+1,rfl,m,?_⟩,by simp only[Vi];omega⟩;rw[VE m,VE (by omega),s,this]
  .have:k=xs.length:=by
    have:¬((k:Int)<xs.length):=by simpa using f
    omega
   subst this;rw[V2 (Vg _),V2 (by omega)]at s;exact⟨by rw[Vs s];rfl,rfl⟩
theorem OQ{a:KQ}{c:Nat}{bs:List Int}(h:aA H L)(j:∀H,aA H L->aP H a (bs.map U8))(u:bs.length<=1099511627776)
  (k:∀e d f,aA f (slA 5 1 e bs.length d (bs.map U8)::L)->K (.slice e bs.length d) f):CF 22 #[.slice a bs.length c] H K:=by
 refine cM 22 28 ?_;refine h.al λb _ h=>?_
 have t:=j _ h.tl;have s:=aA.sl_pt (cs:=[]) h 1 0 rfl;refine aA.append (m:=bs.length) sl32 s 0 rfl t (by simp) (nu (λ_=>rfl) _) (by omega) (by omega) λe d f n=>⟨_,_,_,rfl,?_⟩
 have i:aA f (slA 5 1 e (0+bs.length) d ([]++bs.map U8)::L):=n;rw[Vw,VB]at i;have:=k e d f i;rw[<-Vw bs.length]at this;exact this
end
theorem aP.subB{H:aC}{a:KQ}{cs:Os}{k c:Nat}(h:aP H a cs)(n:cs.length<=c):aP H (bZ a k c 1) (cs.drop k):=by
 intro j v d;have b:aT cs (k+j)=Option.some v:=by
  rw[fL]at d ⊢;rw[List.getElem?_drop]at d;exact d
 obtain⟨i,f⟩:=h (k+j) v b;have m:=nT b;have e:bZ a k c 1=Option.some ⟨aV a,aS a+k,none⟩:=by
  unfold bZ;rw[nO,i,V9,iN,VT];rfl
 rw[e];refine⟨rfl,?_⟩;show aK H (aV a) (aS a+k+j)=Option.some v;rw[VQ];exact f
theorem u32w{x:Int}(b:0<=x)(a:x<4294967296):u32.wrap x=x:=by
 simp only[IntKind.wrap,IntKind.bits,IntKind.signed]at *
 first|omega|(simp;omega)
theorem u8w{x:Int}(b:0<=x)(a:x<256):u8.wrap x=x:=by
 simp only[IntKind.wrap,IntKind.bits,IntKind.signed]at *
 first|omega|(simp;omega)
theorem u64w{x:Int}(b:0<=x)(a:x<18446744073709551616):u64.wrap x=x:=by
 simp only[IntKind.wrap,IntKind.bits,IntKind.signed]at *
 first|omega|(simp;omega)
def aH(l:List Int):Prop:=∀x∈l,0<=x/\x<256
def bQ(u:Nat):List Int:=if h:u<128 then [(u:Int)] else ((128+u%128:Nat):Int)::bQ (u/128)
termination_by u
decreasing_by omega
theorem lD{u:Nat}(h:u<128):bQ u=[(u:Int)]:=by rw[bQ,dif_pos h]
theorem nB{u:Nat}(h:¬u<128):bQ u=((128+u%128:Nat):Int)::bQ (u/128):=by rw[bQ,dif_neg h]
theorem oL(u:Nat):aH (bQ u):=by
 induction u using Nat.strongRecOn with
 | _ u ih=>
  by_cases h:u<128
  .rw [lD h];intro x a;rw[Vo]at a;omega
  .rw [nB h];intro x a
   rcases Vm.1 a with rfl|a
   .omega
   .exact ih (u/128) (by omega) x a
theorem vV(u:Nat):0<(bQ u).length:=by
 by_cases h:u<128
 .rw [lD h];exact Nat.zero_lt_one
 .rw [nB h];simp
inductive UR where
 | ok (u:Nat) (size:Nat)
 | form
 | ended
 deriving DecidableEq
def rdU:Nat->Nat->List Int->UR
 | _,_,[]=>.ended
 | acc,i,c::r=>if (c=0/\0<i)\/(1<c/\i=9) then .form else
   if c<128 then .ok (acc+c.toNat%128*2^(7*i)) (i+1) else rdU (acc+c.toNat%128*2^(7*i)) (i+1) r
theorem vW:∀{l:List Int} {acc i u n:Nat},aH l->rdU acc i l=.ok u n->i<=9->
  ∃w,u=acc+w*2^(7*i)/\i<n/\n-i<=l.length/\bQ w=l.take (n-i)/\n<=10/\(0<i->w≠0)/\w*2^(7*i)<2^64
 | [],acc,i,u,n,_,h,_=>by simp[rdU]at h
 | c::r,acc,i,u,n,hb,h,hi=>by
  have j:=hb c Vn;rw[rdU]at h
  split at h
  .cases h
  .rename_i a
   split at h
   .rename_i m
    cases h
    refine⟨c.toNat,?_,by omega,?_,?_,by omega,λh0=>?_,?_⟩
    .rw [Wj (by omega)]
    .simp only[Vf];omega
    .rw [lD (by omega),show i+1-i=1 by omega];simp only[Wo,W4];rw[WT j.1]
    .intro e;exact a (Or.inl ⟨by omega,h0⟩)
    .by_cases b:i=9
     .subst b;have:c.toNat<=1:=by
       by_cases h1:1<c
       .exact UY (Or.inr ⟨h1,rfl⟩) a
       .omega
      calc c.toNat*2^(7*9)<=1*2^(7*9):=VS _ this
       _<2^64:=by decide
     .calc c.toNat*2^(7*i)<128*2^(7*i):=(Nat.mul_lt_mul_right (Wz _)).2 (by omega)
       _=2^(7+7*i):=by rw[VZ]
       _<=2^64:=Nat.pow_le_pow_right (by decide) (by omega)
   .rename_i k;have b:i≠9:=λe=>a (Or.inr ⟨by omega,e⟩)
    obtain⟨w,e1,e2,e3,e4,e5,e6,e7⟩:=vW (λx d=>hb x (Vq _ d)) h (by omega)
    have v:=e6 (by omega);have em:c.toNat%128+128*w=c.toNat%128+w*128:=by omega
    have ep:(2:Nat)^(7*(i+1))=128*2^(7*i):=by rw[show 7*(i+1)=7+7*i by omega,VZ]
    refine⟨c.toNat%128+128*w,?_,by omega,?_,?_,e5,λ_=>by omega,?_⟩
    .rw [e1,ep,VJ,<-Nat.mul_assoc,Nat.mul_comm w 128,VQ]
    .simp only[Vf];omega
    .rw [nB (by omega),show n-i=(n-(i+1))+1 by omega,Wo,<-e4];congr 1
     .omega
     .congr 1;omega
    .rw [ep]at e7;have s:i+1<=9:=by omega
     have f:w*2^(7*(i+1))<2^(64-7*(i+1))*2^(7*(i+1)):=by
      rw[<-VZ,show 64-7*(i+1)+7*(i+1)=64 by omega,ep];exact e7
     have t:w<2^(64-7*(i+1)):=Nat.lt_of_mul_lt_mul_right f
     calc (c.toNat%128+128*w)*2^(7*i)<(128*2^(64-7*(i+1)))*2^(7*i):=(Nat.mul_lt_mul_right (Wz _)).2 (by omega)
      _=2^64:=by rw[show (128:Nat)=2^7 from rfl,<-VZ,<-VZ,show 7+(64-7*(i+1))+7*i=64 by omega]
theorem vX:∀{w acc i:Nat} (r:List Int),w<2^(64-7*i)->i<=9->(0<i->w≠0)->
  rdU acc i (bQ w++r)=.ok (acc+w*2^(7*i)) (i+(bQ w).length):=by
 intro w
 induction w using Nat.strongRecOn with
 | _ w ih=>
  intro acc i r b hi h0
  by_cases h:w<128
  .rw [lD h,List.singleton_append,rdU,UW,pO]
   .rw [Vi,Wj h];rfl
   .rintro (⟨c,a⟩|⟨c,a⟩)
    .exact h0 a (by omega)
    .subst a;have:w<2:=by simpa using b
     omega
  .have d:i≠9:=by
    intro e;subst e;have:w<2:=by simpa using b
    omega
   rw[nB h,Wf,rdU,UW,nO,ih (w/128) (by omega) r ?_ (by omega) (λ_=>by omega)]
   .have ep:(2:Nat)^(7*(i+1))=128*2^(7*i):=by rw[show 7*(i+1)=7+7*i by omega,VZ]
    congr 1
    .rw [Vi,ep,VQ,show (128+w%128)%128=w%128 by omega,<-Nat.mul_assoc,<-VJ];congr 2;omega
    .simp only[Vf];omega
   .rw [W3 (by decide)]
    calc w<2^(64-7*i):=b
     _=2^(64-7*(i+1))*128:=by rw[show (128:Nat)=2^7 from rfl,<-VZ,show 64-7*(i+1)+7=64-7*i by omega]
   .rintro (⟨c,a⟩|⟨c,a⟩)
    .omega
    .exact d a
theorem rdU_part:∀{w acc i k:Nat},k<(bQ w).length->i+(bQ w).length<=10->rdU acc i ((bQ w).take k)=.ended:=by
 intro w
 induction w using Nat.strongRecOn with
 | _ w ih=>
  intro acc i k a hi
  by_cases h:w<128
  .rw [lD h]at a ⊢;have:k=0:=by simpa using a
   subst this;rfl
  .rw [nB h]at a hi ⊢
   cases k with
   | zero=>rfl
   | succ k=>
    have b:=vV (w/128);simp only[Vf]at a hi;rw[Wo,rdU,nO,nO];exact ih (w/128) (by omega) (by omega) (by omega)
theorem OR:∀{w i:Nat},w<2^(64-7*i)->i<=9->i+(bQ w).length<=10:=by
 intro w
 induction w using Nat.strongRecOn with
 | _ w ih=>
  intro i a hi
  by_cases h:w<128
  .rw [lD h];simp only[VN];omega
  .have b:i≠9:=by
    intro e;subst e;have:w<2:=by simpa using a
    omega
   rw[nB h];have:=ih (w/128) (by omega) (i:=i+1) (by
    rw[W3 (by decide)]
    calc w<2^(64-7*i):=a
     _=2^(64-7*(i+1))*128:=by rw[show (128:Nat)=2^7 from rfl,<-VZ,show 64-7*(i+1)+7=64-7*i by omega]) (by omega)
   simp only[Vf];omega
theorem oM(n:Nat):u8.wrap (n:Int)=((n%256:Nat):Int):=by
 simp only[IntKind.wrap,IntKind.bits,IntKind.signed]
 <;> (try simp) <;> (try omega)
theorem or8_all:∀n,n<256->(n ||| 128)=128+n%128:=by decide +kernel
theorem OS(n:Nat):aY .or .u8 (u8.wrap (n:Int)) 128=((128+n%128:Nat):Int):=by
 rw[oM];unfold aY;have e1:(BitVec.ofInt u8.bits ((n%256:Nat):Int)).toNat=n%256:=by
  rw[Yd,Ye];exact Wj (Wc _ (by decide))
 have e2:(BitVec.ofInt u8.bits (128:Int)).toNat=128:=by decide
 have:u8.wrap (((n%256) ||| 128:Nat):Int)=((128+n%128:Nat):Int):=by
  rw[or8_all _ (Wc _ (by decide)),oM];omega
 show u8.wrap ((BitVec.ofInt u8.bits ((n%256:Nat):Int) ||| BitVec.ofInt u8.bits 128).toNat:Int)=_;rw[BitVec.toNat_or,e1,e2,this]
theorem shift7(n:Nat):Int.fdiv (n:Int) (2^(min (Int.toNat 7) (u64.bits)))=((n/128:Nat):Int):=by
 show Int.fdiv (n:Int) 128=_;rw[Wx _ (by decide)];omega
section
variable {F L:List aE}{H:aC}{K:KE}
theorem nW{u:Nat}(a:u<18446744073709551616):(bQ u).length<=10:=by
 have:=OR (w:=u) (i:=0) (by simpa using a) (by omega);omega
theorem vY{a:KQ}{c:Nat}{bs:List Int}{u:Nat}(h:aA H (slA 5 1 a bs.length c (bs.map U8)::F))(B:bs.length<=1099511627776)(s:u<18446744073709551616)
  (k:∀e d f,aA f (slA 5 1 e (bs++bQ u).length d ((bs++bQ u).map U8)::F)->K (.slice e (bs++bQ u).length d) f) :
  CF 112 #[.slice a bs.length c,.int .u64 u] H K:=by
 refine cN 112 5161250280592460 [[(0,sS),(1,sU)]] ?_;refine⟨λe y d x f=>∃(cs:List Int) (w:Nat),y=cs.length/\x=w/\w<18446744073709551616/\cs++bQ w=bs++bQ u/\aA f (slA 5 1 e cs.length d (cs.map U8)::F),λ_ _ _ u _=>u.toNat,
  ⟨bs,u,rfl,rfl,s,rfl,h⟩,?_⟩
 rintro a1 n1 c1 u1 A ⟨cs,w,rfl,rfl,C,m,t⟩;have v:cs.length<=1099511627786:=by
  have:=congrArg List.length m;simp only[UZ]at this;have:=nW s;omega
 refine⟨λj=>?_,λj=>?_⟩
 .have b:¬w<128:=by simp at j;omega
  rintro _ _ rfl rfl;rw[OS];refine t.append1 sl32 0 rfl (by rfl) (by rfl) (by omega) (by omega) λe d n i=>⟨_,_,_,rfl,by decide,?_,by dsimp only;rw[shift7];omega⟩
  refine⟨cs++[((128+w%128:Nat):Int)],w/128,by simp,shift7 w,by omega,?_,?_⟩
  .rw [<-m,nB b,Vj,List.singleton_append]
  .rw [Vv,UZ];exact i
 .have b:w<128:=by simp at j;omega
  rintro _ _ rfl rfl;rw[oM];refine t.append1 sl32 0 rfl (by rfl) (by rfl) (by omega) (by omega) λe d n i=>⟨_,_,_,rfl,?_⟩
  have:=k e d n;rw[<-m,lD b,UZ]at this;refine this ?_;rw[Vv];rw[Wj (by omega)]at i;exact i
end
theorem EV{a m p:Nat}(d:a<2^p)(h:a+m*2^p<18446744073709551616):aY .or .u64 (a:Int) ((m*2^p:Nat):Int)=((a+m*2^p:Nat):Int):=by
 have c:a<18446744073709551616:=by omega
 have b:m*2^p<18446744073709551616:=by omega
 have e1:(BitVec.ofInt u64.bits (a:Int)).toNat=a:=by
  rw[Yd,Ye];exact Wj c
 have e2:(BitVec.ofInt u64.bits ((m*2^p:Nat):Int)).toNat=m*2^p:=by
  rw[Yd,Ye];exact Wj b
 have e3:a ||| m*2^p=a+m*2^p:=by
  rw[Nat.mul_comm m,Nat.or_comm,<-Ym d,W6]
 show u64.wrap ((BitVec.ofInt u64.bits (a:Int) ||| BitVec.ofInt u64.bits ((m*2^p:Nat):Int)).toNat:Int)=_;rw[BitVec.toNat_or,e1,e2,e3,u64w (by omega) (by omega)]
theorem part64{c:Int}{i:Nat}(h0:0<=c)(d:c<256)(hi:i<=9)(a:i=9->c<=1) :
  u64.wrap ((u64.wrap (Int.tmod c 128))*2^(min (7*i) 64))=((c.toNat%128*2^(7*i):Nat):Int)/\c.toNat%128*2^(7*i)+2^(7*i)<=18446744073709551616:=by
 have em:Int.tmod c 128=((c.toNat%128:Nat):Int):=by rw[Int.tmod_eq_emod_of_nonneg h0];omega
 have hb:c.toNat%128*2^(7*i)+2^(7*i)<=18446744073709551616:=by
  have e:c.toNat%128*2^(7*i)+2^(7*i)=(c.toNat%128+1)*2^(7*i):=by rw[VJ,Nat.one_mul]
  rw[e]
  by_cases h:i=9
  .have:=a h;subst h
   calc (c.toNat%128+1)*2^(7*9)<=2*2^(7*9):=VS _ (by omega)
    _=18446744073709551616:=by decide
  .calc (c.toNat%128+1)*2^(7*i)<=128*2^(7*8):=Nat.mul_le_mul (by omega) (Nat.pow_le_pow_right (by decide) (by omega))
    _<=18446744073709551616:=by decide
 refine⟨?_,hb⟩;have b:0<2^(7*i):=Wz _;rw[em,u64w (x:=((c.toNat%128:Nat):Int)) (by omega) (by omega),Ww (by omega)];have:((c.toNat%128:Nat):Int)*2^(7*i)=((c.toNat%128*2^(7*i):Nat):Int):=by
  rw[Wy,Int.natCast_pow];rfl
 rw[this,u64w (by omega) (by omega)]
def firV:UR->Value
 | .ok u n=>.tuple #[.int .u64 u,.int .i64 n,.int .i64 0]
 | .form=>.tuple #[.int .u64 0,.int .i64 0,.int .i64 10]
 | .ended=>.tuple #[.int .u64 0,.int .i64 0,.int .i64 15]
inductive RStep (bs:List Int)(k acc:Nat):Prop where
 | fin (h:bs.length<=k) (e:rdU acc k (bs.drop k)=.ended)
 | go (h:k<bs.length) (c:Int) (hc:bs[k]=c) (h0:0<=c) (h1:c<256) (hf:¬((c=0/\0<k)\/(1<c/\k=9)))
   (e1:c<128->rdU acc k (bs.drop k)=.ok (acc+c.toNat%128*2^(7*k)) (k+1))
   (e2:¬c<128->rdU acc k (bs.drop k)=rdU (acc+c.toNat%128*2^(7*k)) (k+1) (bs.drop (k+1)))
 | bad (h:k<bs.length) (c:Int) (hc:bs[k]=c) (hf:(c=0/\0<k)\/(1<c/\k=9)) (e:rdU acc k (bs.drop k)=.form)
theorem rstep{bs:List Int}(hb:aH bs)(k acc:Nat):RStep bs k acc:=by
 rcases V0 k bs.length with h|h
 .have hd:bs.drop k=bs[k]::bs.drop (k+1):=VP h;have b:=hb _ (Vk h)
  by_cases hf:(bs[k]=0/\0<k)\/(1<bs[k]/\k=9)
  .exact .bad h _ rfl hf (by rw[hd,rdU,UX hf])
  .refine .go h _ rfl b.1 b.2 hf (λa=>?_) (λa=>?_)
   .rw [hd,rdU,UW hf,UX a]
   .rw [hd,rdU,UW hf,UW a]
 .exact .fin h (by rw[List.drop_eq_nil_of_le h];rfl)
theorem EW{H:aC}{a:KQ}{c:Nat}{bs:List Int}(G:aP H a (bs.map U8))(hb:aH bs)(K:bs.length<=1099511627776) :
  bU Tryz.prog 249 #[.slice a bs.length c] H (firV (rdU 0 0 bs)):=by
 unfold bU;refine cN 249 0x11215612399251d1b4c [[(5,sU),(10,sI)]] ?_;refine⟨λu i E=>E=H/\∃k b:Nat,i=k/\u=b/\k<=9/\k<=bs.length/\b<2^(7*k)/\rdU b k (bs.drop k)=rdU 0 0 bs,λ_ i _=>bs.length-i.toNat,⟨rfl,0,0,rfl,rfl,by decide,V3 _,by decide,rfl⟩,?_⟩
 rintro u i E ⟨rfl,k,b,rfl,rfl,I,L,d,s⟩;refine⟨λt=>?_,λt=>?_⟩
 .have B:k<bs.length:=by simpa using t
  have D:=G.at B;refine⟨⟨by omega,by omega⟩,_,_,D.1,_,D.2,?_⟩;have e7:i64.wrap (7*(k:Int))=((7*k:Nat):Int):=by rw[aJ];omega
  have F:i64.wrap ((k:Int)+1)=((k+1:Nat):Int):=aJ
  rcases rstep hb k b with ⟨h,_⟩|⟨h,x,y,h0,v,n,e1,e2⟩|⟨h,x,y,n,e⟩
  .omega
  .rw [y];have C:=part64 (c:=x) (i:=k) h0 v I (λe9=>by
    rcases Int.lt_or_le 1 x with A|A
    .exact UY (Or.inr ⟨A,e9⟩) n
    .exact A)
   refine⟨λj=>?_,λ_=>⟨by decide,by rw[e7];omega,λm=>?_,λm=>?_⟩⟩
   .exfalso;apply n;simp only[Vr,Vd,Vc]at j;omega
   .conv=>whnf
    rw[e7,F,Vi];show _=_/\_;have f:u64.wrap (u64.wrap (Int.tmod x 128)*2^(min (7*k) u64.bits))=((x.toNat%128*2^(7*k):Nat):Int):=C.1;rw[f,EV d (by omega),<-s,e1 (by simpa using m)];exact⟨rfl,rfl⟩
   .conv=>whnf
    rw[e7,F,Vi];have f:u64.wrap (u64.wrap (Int.tmod x 128)*2^(min (7*k) u64.bits))=((x.toNat%128*2^(7*k):Nat):Int):=C.1;have w:¬x<128:=by simpa using m
    rw[f,EV d (by omega)];have k9:k≠9:=λe9=>n (Or.inr ⟨by omega,e9⟩)
    refine⟨⟨rfl,k+1,_,rfl,rfl,by omega,by omega,?_,?_⟩,by dsimp only;omega⟩
    .calc b+x.toNat%128*2^(7*k)<2^(7*k)+x.toNat%128*2^(7*k):=by omega
      _=(x.toNat%128+1)*2^(7*k):=by rw[VJ,Nat.one_mul,W6]
      _<=128*2^(7*k):=VS _ (by omega)
      _=2^(7*(k+1)):=by rw[show 7*(k+1)=7+7*k by omega,VZ]
    .rw [<-s,e2 w]
  .rw [y];refine⟨λ_=>?_,λj=>?_⟩
   .rw [<-s,e];exact⟨rfl,rfl⟩
   .exfalso;simp only[Vp,VF,Ve]at j;omega
 .have J:bs.length<=k:=by simp at t;omega
  rcases rstep hb k b with ⟨h,e⟩|⟨h,_⟩|⟨h,_⟩
  .rw [<-s,e];exact⟨rfl,rfl⟩
  .omega
  .omega
def cntV(most:Int):UR->Value
 | .ok u n=>if max most 0<(u:Int) then .tuple #[.int .i64 0,.int .i64 0,.int .i64 17] else .tuple #[.int .i64 u,.int .i64 n,.int .i64 0]
 | .form=>.tuple #[.int .i64 0,.int .i64 0,.int .i64 10]
 | .ended=>.tuple #[.int .i64 0,.int .i64 0,.int .i64 15]
theorem EX{H:aC}{a:KQ}{c:Nat}{bs:List Int}{most:Int}(j:aP H a (bs.map U8))(hb:aH bs)(k:bs.length<=1099511627776)(hm:aF most) :
  bU Tryz.prog 254 #[.slice a bs.length c,.int .i64 most] H (cntV most (rdU 0 0 bs)):=by
 unfold bU;refine cM 254 73180 ?_;have b:=EW (c:=c) j hb k;have i:u64.wrap (if 0>most then 0 else most)=max most 0:=by
  unfold aF at hm
  split <;> rw[u64w (by omega) (by omega)] <;> omega
 cases hr:rdU 0 0 bs with
 | ok u n=>
  rw[hr]at b;refine⟨_,_,_,b,(λd=>by cases d),λ_=>⟨λe=>?_,λe=>?_⟩⟩
  .have h:max most 0<(u:Int):=by rw[<-i];simpa using e
   unfold cntV;dsimp only;rw[UX h];exact⟨rfl,rfl⟩
  .have f:¬max most 0<(u:Int):=by rw[<-i];simpa using e
   unfold cntV;unfold aF at hm;dsimp only;rw[UW f];exact⟨by show Value.tuple #[.int .i64 (i64.wrap _),_,_]=_;rw[aJ],rfl⟩
 | form=>
  rw[hr]at b;exact⟨_,_,_,b,λ_=>⟨rfl,rfl⟩,(λd=>by cases d)⟩
 | ended=>
  rw[hr]at b;exact⟨_,_,_,b,λ_=>⟨rfl,rfl⟩,(λd=>by cases d)⟩
section
variable {F L:List aE}{H:aC}{K:KE}
theorem ze{a:KQ}{c:Nat}{u:Nat}(h:aA H F)(x:∀H,aA H F->aP H a [.int .u64 u])(w:u<18446744073709551616)
  (k:∀d b e,aA e (slA 5 1 d (bQ u).length b ((bQ u).map U8)::F)->K (.slice d (bQ u).length b) e) :
  CF 111 #[.slice a 1 c] H K:=by
 refine cN 111 0x1121561239925144c [[(3,sS),(8,sI)]] ?_;refine⟨λd m b i e=>(i=0/\m=0/\b=0/\d=none/\aA e F)\/(i=1/\m=(bQ u).length/\aA e (slA 5 1 d (bQ u).length b ((bQ u).map U8)::F)),λ_ _ _ i _=>1-i.toNat,
  .inl ⟨rfl,rfl,rfl,rfl,h⟩,?_⟩
 rintro a1 n1 c1 i t (⟨rfl,rfl,rfl,rfl,f⟩|⟨rfl,rfl,f⟩)
 .skip
  refine⟨λ_=>?_,(λj=>by cases j)⟩
  have n:=(x _ f) 0 _ rfl;refine⟨by decide,_,_,n.1,_,n.2,?_⟩;have s:aA t (slA 5 1 none ([]:List Int).length 0 (([]:List Int).map U8)::F):=f.sl_nil 5 1;refine vY (bs:=[]) s (by simp) w λd b e v=>⟨_,_,_,rfl,.inr ⟨rfl,rfl,v⟩,by dsimp only;decide⟩
 .skip
  exact⟨(λj=>by cases j),λ_=>k _ _ _ f⟩
end
structure RS where
 e:Int
 bs:List Int
def bX(most:Int)(s:RS):Int×RS:=if s.e≠0 then (0,s) else match rdU 0 0 s.bs with
 | .ok u n=>if max most 0<(u:Int) then (0,⟨17,s.bs⟩) else (u,⟨0,s.bs.drop n⟩)
 | .form=>(0,⟨10,s.bs⟩)
 | .ended=>(0,⟨15,s.bs⟩)
def aZ(most:Int)(s:RS):List Int×RS:=if s.e≠0 then ([],s) else match rdU 0 0 s.bs with
 | .ok u n=>if max most 0<(u:Int) then ([],⟨17,s.bs⟩) else if s.bs.length<n+u then ([],⟨15,s.bs⟩) else ((s.bs.drop n).take u,⟨0,s.bs.drop (n+u)⟩)
 | .form=>([],⟨10,s.bs⟩)
 | .ended=>([],⟨15,s.bs⟩)
theorem qi{bs:List Int}{u n:Nat}(hb:aH bs)(h:rdU 0 0 bs=.ok u n):0<n/\n<=bs.length/\u<18446744073709551616:=by
 obtain⟨w,b,a,d,_,_,_,c⟩:=vW hb h (by omega);refine⟨a,by omega,?_⟩;simp only[Nat.mul_zero,Nat.pow_zero,VT]at b c;omega
def crdA(b:Nat)(s:RS):aE:=exS λp:KQ×Nat=>cellsA b [.slice p.1 s.bs.length p.2,.int .i64 s.e] 432*slA 5 1 p.1 s.bs.length p.2 (s.bs.map U8)
theorem iu{H:aC}{b:Nat}{s:RS}{L:List aE}:aA H (crdA b s::L)↔∃a c,aA H (cellsA b [.slice a s.bs.length c,.int .i64 s.e] 432::slA 5 1 a s.bs.length c (s.bs.map U8)::L):=by
 unfold crdA;rw[cJ]
 constructor
 .rintro⟨p,h⟩;exact⟨p.1,p.2,gp.1 h⟩
 .rintro⟨a,c,h⟩;exact⟨(a,c),gp.2 h⟩
def bF(s:List Int):Fa:=strOfNums s
section
variable {F L:List aE}{H:aC}{K:KE}
theorem zf{b n c size:Nat}{a:KQ}(h:aA H (cellsA b [.slice a n c,.int .i64 0] 432::F))(hs:size<=n)(f:n<=c)
  (k:∀e,aA e (cellsA b [.slice (bZ a size c 1) (n-size) (c-size),.int .i64 0] 432::F)->K (.bool true) e) :
  CF 250 #[.pointer (some ⟨b,0,none⟩),.int .i64 size,.int .i64 0] H K:=by
 refine cM 250 125110962460 ?_;refine⟨_,h.r 0,(λd=>by cases d),λ_=>⟨(λd=>by cases d),λ_=>⟨_,_,_,h.rd 0 rfl _,⟨by omega,by omega,by omega⟩,?_⟩⟩⟩
 rw[Vi];exact h.st 0 rfl rfl λe h=>k _ h
theorem nC{b n c:Nat}{size e:Int}{a:KQ}(h:aA H (cellsA b [.slice a n c,.int .i64 0] 432::F))(i:e≠0)
  (k:∀f,aA f (cellsA b [.slice a n c,.int .i64 e] 432::F)->K (.bool false) f) :
  CF 250 #[.pointer (some ⟨b,0,none⟩),.int .i64 size,.int .i64 e] H K:=by
 refine cM 250 125110962460 ?_;refine⟨_,h.r 0,(λd=>by cases d),λ_=>⟨λ_=>?_,λd=>by simp[i]at d⟩⟩
 exact h.st 0 rfl rfl λf h=>k _ h
theorem vZ{b n c:Nat}{size e e0:Int}{a:KQ}(h:aA H (cellsA b [.slice a n c,.int .i64 e0] 432::F))(d:e0≠0)
  (k:K (.bool false) H):CF 250 #[.pointer (some ⟨b,0,none⟩),.int .i64 size,.int .i64 e] H K:=by
 refine cM 250 125110962460 ?_;exact⟨_,h.r 0,λ_=>k,λf=>by simp[d]at f⟩
theorem Err_spec{b n c:Nat}{e:Int}{a:KQ}(h:aA H (cellsA b [.slice a n c,.int .i64 e] 432::F)):bU Tryz.prog 173 #[.pointer (some ⟨b,0,none⟩)] H (.int .i64 e):=by
 unfold bU;refine cM 173 28 ?_;exact⟨_,h.r 0,rfl,rfl⟩
theorem OT{b n c:Nat}{e:Int}{a:KQ}(h:aA H (cellsA b [.slice a n c,.int .i64 e] 432::F)):bU Tryz.prog 258 #[.pointer (some ⟨b,0,none⟩)] H (.int .i64 n):=by
 unfold bU;refine cM 258 28 ?_;exact⟨_,_,_,h.r 0,rfl,rfl⟩
theorem mp{b:Nat}{s:RS}(h:aA H (crdA b s::F)):bU Tryz.prog 173 #[.pointer (some ⟨b,0,none⟩)] H (.int .i64 s.e):=by
 obtain⟨a,c,h⟩:=iu.1 h;exact Err_spec h
theorem oN{b:Nat}{s:RS}(h:aA H (crdA b s::F)):bU Tryz.prog 258 #[.pointer (some ⟨b,0,none⟩)] H (.int .i64 s.bs.length):=by
 obtain⟨a,c,h⟩:=iu.1 h;exact OT h
theorem rG{a:KQ}{c:Nat}{bs:List Int}(h:aA H F)(f:∀H,aA H F->aP H a (bs.map U8))(e:bs.length<=1099511627776)
  (k:∀b d,aA d (crdA b ⟨0,bs⟩::F)->K (.pointer (some ⟨b,0,none⟩)) d):CF 168 #[.slice a bs.length c] H K:=by
 refine cM 168 28 ?_;refine zd h f e λn i m h=>⟨_,_,_,rfl,?_⟩
 refine h.al λb j h=>k _ _ ?_
 exact iu.2 ⟨_,_,h⟩
theorem tG{b:Nat}{s:RS}{most:Int}(h:aA H (crdA b s::F))(hb:aH s.bs)(B:s.bs.length<=1099511627776)(hm:aF most)
  (k:∀i,aA i (crdA b (bX most s).2::F)->K (.int .i64 (bX most s).1) i) :
  CF 251 #[.pointer (some ⟨b,0,none⟩),.int .i64 most] H K:=by
 obtain⟨e,bs⟩:=s;dsimp only at hb B;obtain⟨a,c,h⟩:=iu.1 h;dsimp only at h;have E:=h.sl_rd 1 rfl;have G:=h.sl_nc 1 rfl;refine cM 251 4572 ?_;have d:=EX (c:=c) E hb B hm;have fin:∀r1 w:Int,∀(r:Int),(bX most ⟨e,bs⟩=(0,⟨w,bs⟩))->(∀j,(∀i,aA i (cellsA b [.slice a bs.length c,.int .i64 w] 432::slA 5 1 a bs.length c (bs.map U8)::F)->j (.bool false) i)->CF 250 #[.pointer (some ⟨b,0,none⟩),.int .i64 r1,.int .i64 r] H j)->
   CF 250 #[.pointer (some ⟨b,0,none⟩),.int .i64 r1,.int .i64 r] H λu A=>∃r3:Bool,u=(.bool r3)/\(((!r3))=true->K (.int .i64 0) A)/\(((!r3))=false->K (.int .i64 (bX most ⟨e,bs⟩).1) A):=by
  intro r1 w r v f;rw[v]at k ⊢;exact f _ λi y=>⟨_,rfl,λ_=>k _ (iu.2 ⟨_,_,y⟩),λm=>by cases m⟩
 by_cases v:e=0
 .subst v
  cases hu:rdU 0 0 bs with
  | ok u n=>
   obtain⟨I,C,J⟩:=qi hb hu;rw[hu]at d;unfold cntV at d;dsimp only at d
   by_cases hm1:max most 0<(u:Int)
   .rw [UX hm1]at d;refine⟨_,_,_,h.r 0,_,_,_,d,?_⟩;have f:=fin 0 17 17 (by unfold bX;simp[hu,hm1]) λj t=>nC h (by decide) t
    have e0:(bX most ⟨0,bs⟩).1=0:=by unfold bX;simp[hu,hm1]
    rw[e0]at f;exact f
   .rw [UW hm1]at d;refine⟨_,_,_,h.r 0,_,_,_,d,?_⟩;have ec:bX most ⟨0,bs⟩=((u:Int),⟨0,bs.drop n⟩):=by unfold bX;simp[hu,hm1]
    rw[ec]at k;refine zf h C G λi y=>⟨_,rfl,(λm=>by cases m),λ_=>k _ ?_⟩
    have D:=y.sl_drop 1 rfl n C;rw[VT,<-List.map_drop]at D;refine iu.2 ⟨bZ a n c 1,c-n,?_⟩;dsimp only;rw[Vt];exact D
  | form=>
   rw[hu]at d;refine⟨_,_,_,h.r 0,_,_,_,d,?_⟩;have f:=fin 0 10 10 (by unfold bX;simp[hu]) λj t=>nC h (by decide) t
   have e0:(bX most ⟨0,bs⟩).1=0:=by unfold bX;simp[hu]
   rw[e0]at f;exact f
  | ended=>
   rw[hu]at d;refine⟨_,_,_,h.r 0,_,_,_,d,?_⟩;have f:=fin 0 15 15 (by unfold bX;simp[hu]) λj t=>nC h (by decide) t
   have e0:(bX most ⟨0,bs⟩).1=0:=by unfold bX;simp[hu]
   rw[e0]at f;exact f
 .have ec:bX most ⟨e,bs⟩=(0,⟨e,bs⟩):=by unfold bX;simp[v]
  rw[ec]at k;have x:∃r r1 r2:Int,cntV most (rdU 0 0 bs)=.tuple #[.int .i64 r,.int .i64 r1,.int .i64 r2]:=by
   unfold cntV
   split
   .split <;> exact⟨_,_,_,rfl⟩
   .exact⟨_,_,_,rfl⟩
   .exact⟨_,_,_,rfl⟩
  obtain⟨r,r1,r2,x⟩:=x;rw[x]at d;refine⟨_,_,_,h.r 0,_,_,_,d,?_⟩;exact vZ h v ⟨_,rfl,λ_=>k _ (iu.2 ⟨_,_,h⟩),λm=>by cases m⟩
theorem rH{H:aC}{a:KQ}{c:Nat}{bs:List Int}(f:a=none\/∃b o,a=some ⟨b,o,none⟩)(e:aP H a (bs.map U8)):dj Tryz.prog (convert 43 9 (.slice a bs.length c)) H (.string (bF bs)):=by
 intro w h;subst h
 rcases f with rfl|⟨b,o,rfl⟩
 .have:=nV e;have hb:bs=[]:=by simpa using this
  subst hb;exact run_convert_bytes_nil w 43 5 (by kernel_rfl) (by kernel_rfl) _ _ 9 (by kernel_rfl)
 .refine run_convert_bytes_arg w 43 5 (by kernel_rfl) (by kernel_rfl) b o _ c bs rfl (λi hi=>?_) 9 (by kernel_rfl)
  have d:=(e.at hi).2;simp only[aV,aS]at d;rw[show bs.getD i 0=bs[i] by simp[List.getD,List.getElem?_eq_getElem hi]];rw[cell?_cellAt];exact d
theorem slB_is{e sz n c k:Nat}{a:KQ}{cs:Os}(h:aA H (slA e sz a n c cs::F)):bZ a k c sz=none\/∃b o,bZ a k c sz=some ⟨b,o,none⟩:=by
 have d:a=none\/∃b o,a=some ⟨b,o,none⟩:=by
  rcases (kr (F:=star F) h).2 with ⟨d,_⟩|⟨b,pre,post,f,fr,d,_⟩
  .exact .inl d
  .exact .inr ⟨_,_,d⟩
 unfold bZ
 split
 .exact d
 .rcases d with rfl|⟨b,o,rfl⟩
  .exact .inl rfl
  .right;rw[V9,iN];exact⟨_,_,rfl⟩
theorem nD{b:Nat}{s:RS}{most:Int}(h:aA H (crdA b s::F))(hb:aH s.bs)(J:s.bs.length<=1099511627776)(hm:aF most)
  (k:∀w,aA w (crdA b (aZ most s).2::F)->K (.string (bF (aZ most s).1)) w) :
  CF 176 #[.pointer (some ⟨b,0,none⟩),.int .i64 most] H K:=by
 obtain⟨e,bs⟩:=s;dsimp only at hb J;obtain⟨a,c,h⟩:=iu.1 h;dsimp only at h;have Q:=h.sl_rd 1 rfl;have L:=h.sl_nc 1 rfl;refine On ?_;have f:=EX (c:=c) Q hb J hm;have fin:∀(r r1 d C:Int),aZ most ⟨e,bs⟩=([],⟨C,bs⟩)->(∀v:KE,(∀w,aA w (cellsA b [.slice a bs.length c,.int .i64 C] 432::slA 5 1 a bs.length c (bs.map U8)::F)->v (.bool false) w)->CF 250 #[.pointer (some ⟨b,0,none⟩),.int .i64 (i64.wrap (r1+r)),.int .i64 d] H v)->
   tF.r1 b 0 K r r1 d H:=by
  intro r r1 d C A P;unfold tF.r1;rw[A]at k;refine⟨_,_,_,h.r 0,?_⟩;exact P _ λw y=>⟨_,rfl,λ_=>k _ (iu.2 ⟨_,_,y⟩),λj=>by cases j⟩
 by_cases A:e=0
 .subst A
  cases hu:rdU 0 0 bs with
  | ok u n=>
   obtain⟨U,V,T⟩:=qi hb hu;rw[hu]at f;unfold cntV at f;dsimp only at f
   by_cases hm1:max most 0<(u:Int)
   .rw [UX hm1]at f;refine⟨_,_,_,h.r 0,_,_,_,f,λ_=>trivial,_,_,_,λ_=>h.r 0,λB i=>⟨λj=>by simp at j,λ_=>i _ _ ?_⟩⟩
    exact fin _ _ _ 17 (by unfold aZ;simp[hu,hm1]) λv m=>nC h (by decide) m
   .rw [UW hm1]at f;unfold aF at hm;have R:(u:Int)<=9223372036854775807:=by omega
    have e1:i64.wrap (((bs.length:Nat):Int)-(n:Int))=((bs.length-n:Nat):Int):=by rw[aJ];omega
    refine⟨_,_,_,h.r 0,_,_,_,f,λ_=>trivial,_,_,_,λ_=>h.r 0,λB i=>⟨λx=>i _ _ ?_,λx=>i _ _ ?_⟩⟩
    .rw [e1]at x;have G:bs.length<n+u:=by simp at x;omega
     exact fin _ _ _ 15 (by unfold aZ;simp[hu,hm1,G]) λv m=>nC h (by decide) m
    .rw [e1]at x;have D:¬bs.length<n+u:=by simp at x;omega
     have O:aZ most ⟨0,bs⟩=((bs.drop n).take u,⟨0,bs.drop (n+u)⟩):=by unfold aZ;simp[hu,hm1,D]
     rw[O]at k;unfold tF.r1;have e2:i64.wrap ((n:Int)+(u:Int))=((n+u:Nat):Int):=by rw[aJ];omega
     refine⟨_,_,_,h.r 0,?_⟩;rw[e2];refine zf h (by omega) L λw y=>⟨_,rfl,(λj=>by cases j),λ_=>⟨⟨by omega,by omega,by omega⟩,bF ((bs.drop n).take u),?_,k _ ?_⟩⟩
     .rw [Vi,Vi,W7];have S:=y.tl.sl_rd 0 rfl;have I:=(S.subB (k:=n) (c:=c) (by simpa using L)).take u;rw[<-List.map_drop,<-List.map_take]at I;have M:=rH (c:=c-n) (slB_is y.tl) I;rw[Vx,Vt,Ww (by omega)]at M;exact M
     .have N:=y.sl_drop 1 rfl (n+u) (by omega);rw[VT,<-List.map_drop]at N;refine iu.2 ⟨bZ a (n+u) c 1,c-(n+u),?_⟩;dsimp only;rw[Vt];exact N
  | form=>
   rw[hu]at f;refine⟨_,_,_,h.r 0,_,_,_,f,λ_=>trivial,_,_,_,λ_=>h.r 0,λB i=>⟨λj=>by simp at j,λ_=>i _ _ ?_⟩⟩
   exact fin _ _ _ 10 (by unfold aZ;simp[hu]) λv m=>nC h (by decide) m
  | ended=>
   rw[hu]at f;refine⟨_,_,_,h.r 0,_,_,_,f,λ_=>trivial,_,_,_,λ_=>h.r 0,λB i=>⟨λj=>by simp at j,λ_=>i _ _ ?_⟩⟩
   exact fin _ _ _ 15 (by unfold aZ;simp[hu]) λv m=>nC h (by decide) m
 .have E:∃r r1 r2:Int,cntV most (rdU 0 0 bs)=.tuple #[.int .i64 r,.int .i64 r1,.int .i64 r2]:=by
   unfold cntV
   split
   .split <;> exact⟨_,_,_,rfl⟩
   .exact⟨_,_,_,rfl⟩
   .exact⟨_,_,_,rfl⟩
  obtain⟨r,r1,r2,E⟩:=E;rw[E]at f;have t:∀d,tF.r1 b 0 K r r1 d H:=λd=>fin r r1 d e (by unfold aZ;simp[A]) λv m=>vZ h A (m _ h)
  exact⟨_,_,_,h.r 0,_,_,_,f,λ_=>trivial,_,_,_,λ_=>h.r 0,λB i=>⟨λx=>i _ _ (t _),λ_=>i _ _ (t _)⟩⟩
end
theorem tH{a b:List Int}(d:aH a)(hb:aH b):aH (a++b):=λx c=>(Vz.1 c).elim (d x) (hb x)
theorem tI{a:List Int}(n:Nat)(c:aH a):aH (a.take n):=λx b=>c x (VR b)
theorem oO{a:List Int}(n:Nat)(c:aH a):aH (a.drop n):=λx b=>c x (Wh b)
theorem qj{xs:List Int}(h:aH xs)(i:Nat)(hi:i<xs.length):((UInt8.ofNat (xs[i]).toNat).toNat:Int)=xs[i]:=by
 have:=h _ (Vk hi);rw[UInt8.toNat_ofNat'];omega
section
variable {F L:List aE}{H:aC}{K:KE}
theorem sl_same{H:aC}{a:KQ}{cs:Os}{c:Nat}(h:aP H a cs)(h0:cs≠[]):bZ a 0 c 1=a:=by
 cases cs with
 | nil=>exact UY rfl h0
 | cons v r=>exact slB0 (h 0 v rfl).1
end
section
variable {F L:List aE}{H:aC}{K:KE}
theorem wb{t:List Int}(hb:aH t)(h:aA H L)(k:∀a c x,aA x (slA 5 1 a t.length c (t.map U8)::L)->K (.slice a t.length c) x) :
  cA Tryz.prog (convert 9 43 (.string (bF t))) H K:=by
 refine .mk λw B=>?_
 subst B;have hs:(bF t).size=t.length:=strOfNums_size t;have v:=run_bytes_of_string w 9 43 5 (bF t) (P:=Tryz.prog) (by kernel_rfl) (by kernel_rfl) (by kernel_rfl);rw[hs]at v;have d:=grownCap_ge w t.length 0 5;obtain⟨cap,u⟩:∃cap,grownCap w t.length 0 5=cap:=⟨_,rfl⟩;rw[u]at v d;have f:(bytesRow (bF t) cap).toList=t.map U8++List.replicate (cap-t.length) (U8 0):=by
  have e1:(bytesRow (bF t) cap).toList=(bF t).data.toList.map (λb=>U8 (b.toNat:Int))++List.replicate (cap-(bF t).size) (U8 0):=by
   unfold bytesRow;simp only[Array.toList_append,Array.toList_map,Array.toList_replicate]
  have e2:(bF t).data.toList.map (λb=>U8 (b.toNat:Int))=t.map U8:=by
   have:(bF t).data.toList=t.map λn=>UInt8.ofNat n.toNat:=strOfNums_data t
   rw[this,VM];refine Wa (by simp) λi D m=>?_
   simp only[VV,Function.comp_apply];rw[qj hb i (by simpa using m)]
  rw[e1,e2,hs]
 have e:bytesRow (bF t) cap=(t.map U8++List.replicate (cap-t.length) (U8 0)).toArray:=by
  have:=congrArg List.toArray f
  rwa[Array.toArray_toList]at this
 refine⟨_,_,v,⟨rfl,rfl,rfl⟩,k _ _ _ ?_⟩;rw[e];have j:aA _ _:=h.push (.cells (t.map U8++List.replicate (cap-t.length) (U8 0)).toArray 5 ((t.map U8++List.replicate (cap-t.length) (U8 0)).toArray.size,(t.map U8++List.replicate (cap-t.length) (U8 0)).toArray.size+1));generalize hC:t.map U8++List.replicate (cap-t.length) (U8 0)=C at j;have s:C.length=cap:=by rw[<-hC];simp;omega
 refine aA.mono j λp j=>⟨by simp,.inr ⟨_,[],List.replicate (cap-t.length) (U8 0),5,(C.toArray.size,C.toArray.size+1),rfl,d,by simp,λ_ i D m y=>?_,?_⟩⟩
 .have A:=y.1;simp only[List.size_toArray,s]at A;simp only[Vy]at m;omega
 .rw [VB,hC];exact j
end
open  Go.RowKit Go.Maps Go.Sort Go.Shelf
theorem OU{H:aC}{L:List aE}{a:KQ}{c:Nat}{xs:List Int}(h:aA H L)(i:Nat)(P:aW i L=slA 3 1 a xs.length c (xs.map (Value.int .i64)))(C:xs.length<4611686018427387904){K:KE}
  (k:∀D,aA D (put i (slA 3 1 a xs.length c ((sortI xs).map (Value.int .i64))) L)->K (.tuple #[]) D) :
  CF 256 #[.slice a xs.length c] H K:=by
 refine .mk λw G=>?_
 subst G;have E:=h.foc i;rw[P]at E;obtain⟨Q,⟨rfl,M,rfl,t⟩|⟨b,pre,post,x,fr,rfl,v,u,m,t⟩⟩:=kr E
 .have N:xs=[]:=Wk.1 M;subst N;refine jg (AnyM.slices_Sort_int_none Tryz.sortI none 0 w) ?_;rintro e O ⟨rfl,rfl⟩;refine⟨_,rfl,⟨rfl,rfl,rfl⟩,k _ (aA.back ?_)⟩;rw[show (sortI ([]:List Int))=[] from yA List.Pairwise.nil];exact re t
 .have hb:=aQ.get t;have y:b<w.heap.size:=aQ.lt t;have F:Holds (Value.int .i64) w b pre.length xs.toArray:=by
   intro j f;have d:j<xs.length:=by simpa using f
   refine⟨?_,?_⟩
   case refine_2=>
    have:=m (pre.length+j) (by omega) (by omega);simp only[World.frozen?,hb,VF,Ve];omega
   simp only[World.cell?,hb,Option.isSome_none,W2,if_false,List.getElem?_toArray];rw[Vj,List.getElem?_append_right (by omega),W7,List.getElem?_append_left (by simpa using d),List.getElem?_map,List.getElem?_eq_getElem d];simp[d]
  refine jg (AnyM.slices_Sort_int Tryz.sortI b pre.length c xs w F y C) ?_;rintro e O ⟨rfl,n,os,rfl⟩;refine⟨_,rfl,⟨rfl,rfl,rfl⟩,k _ (aA.back ?_)⟩;have hs:(sortI xs).length=xs.length:=vG xs;have A:aQ (w.heap.modify b (onCells (putCells (Value.int .i64) pre.length (sortI xs).toArray))) (pt b (.cells (pre++(sortI xs).map (Value.int .i64)++post).toArray x fr)*star (del i L)):=by
   refine aQ.upd t ?_ λj f=>?_
   .rw [Array.getElem?_modify,UX rfl,hb];simp only[V9,onCells];rw[OP _ _ _ _ (by simp[hs])]
   .rw [Array.getElem?_modify,UW (Ne.symm f)]
  have I:aQ (w.heap.modify b (onCells (putCells (Value.int .i64) pre.length (sortI xs).toArray))++os.toList.toArray) (pt b (.cells (pre++(sortI xs).map (Value.int .i64)++post).toArray x fr)*star (del i L)):=
   A.grow λj f=>by rw[Array.getElem?_append_left f]
  have s:=I.frame (B:=slA 3 1 (some ⟨b,pre.length,none⟩) xs.length c ((sortI xs).map (Value.int .i64))) λp J=>⟨by simp[hs],.inr ⟨b,pre,post,x,fr,rfl,v,u,λ_=>m,J⟩⟩
  simpa[grow,putRow,mapBlock,Sort.ahead,sortI] using s
theorem tJ(x:Int):0<=u64.wrap x/\u64.wrap x<18446744073709551616:=by
 simp only[IntKind.wrap,IntKind.bits,IntKind.signed]
 constructor
 .simp;omega
 .simp;omega
theorem i64in(x:Int):aF (i64.wrap x):=by
 unfold aF;simp only[IntKind.wrap,IntKind.bits,IntKind.signed];simp;omega
def qk(v:Int):Int:=aY .xor .u64 (u64.wrap ((u64.wrap v)*2^(min (Int.toNat 1) (u64.bits)))) (u64.wrap (Int.fdiv v (2^(min (Int.toNat 63) (i64.bits)))))
def rI(u:Int):Int:=aY .xor .i64 (i64.wrap (Int.fdiv u (2^(min (Int.toNat 1) (u64.bits))))) (i64.wrap (0-(i64.wrap (aY .and .u64 u 1))))
theorem EY(v:Int):0<=qk v/\qk v<18446744073709551616:=tJ _
theorem rJ(u:Int):aF (rI u):=i64in _
def turnN(v:Int):Nat:=(qk v).toNat
theorem zg(v:Int):(turnN v:Int)=qk v:=WT (EY v).1
theorem tK(v:Int):turnN v<18446744073709551616:=by have b:=zg v;have a:=EY v;omega
def eJ(l:List Nat):List Int:=l.flatMap bQ
def cX(l:List Int):List Int:=l.flatMap λv=>bQ (turnN v)
def cZ(s:Fa):List Int:=bQ s.size++fe s
def dD(l:List Fa):List Int:=l.flatMap cZ
theorem dE{a b:List Int}(d:aH a)(hb:aH b):aH (a++b):=λx c=>(Vz.1 c).elim (d x) (hb x)
theorem jx{α:Type}{f:α->List Int}{l:List α}(h:∀x∈l,aH (f x)):aH (l.flatMap f):=λx a=>by
 obtain⟨y,b,a⟩:=WK.1 a;exact h y b x a
theorem kJ:aH []:=λx a=>by cases a
theorem zh(l:List Nat):aH (eJ l):=jx λ_ _=>oL _
theorem tL(l:List Int):aH (cX l):=jx λ_ _=>oL _
theorem ql(s:Fa):aH (cZ s):=dE (oL _) (Nk s)
theorem OV(l:List Fa):aH (dD l):=jx λ_ _=>ql _
theorem tM:∀{l:List Nat},(∀u∈l,u<18446744073709551616)->(eJ l).length<=10*l.length
 | [],_=>by simp[eJ]
 | u::r,h=>by
  have c:=nW (h u Vn);have b:=tM (l:=r) λx a=>h x (Vq _ a)
  simp only[eJ,V6,UZ,Vf]at b ⊢;omega
theorem mq:∀(l:List Int),(cX l).length<=10*l.length
 | []=>by simp[cX]
 | v::r=>by
  have b:=nW (tK v);have a:=mq r;simp only[cX,V6,UZ,Vf]at a ⊢;omega
theorem lE{s:Fa}(h:s.size<18446744073709551616):(cZ s).length<=10+s.size:=by
 have:=nW h;rw[cZ,UZ,tt];omega
theorem jL{α β:Type}{f:α->List β}{l:List α}{i:Nat}(h:i<l.length):(l.take (i+1)).flatMap f=(l.take i).flatMap f++f l[i]:=by
 rw[List.take_add_one,List.getElem?_eq_getElem h,VW];simp
def bK(s:RS):Nat×RS:=if s.e≠0 then (0,s) else match rdU 0 0 s.bs with
 | .ok u n=>(u,⟨0,s.bs.drop n⟩)
 | .form=>(0,⟨10,s.bs⟩)
 | .ended=>(0,⟨15,s.bs⟩)
def dF(s:RS):Int×RS:=(rI (bK s).1,(bK s).2)
def dG(s:RS):RS:=if s.bs=[] then s else if s.e≠0 then s else ⟨10,s.bs⟩
theorem wd{bs:List Int}(n:Nat)(h:aH bs):aH (bs.drop n):=λx a=>h x (Wh a)
theorem gH{s:RS}(h:aH s.bs):aH (bK s).2.bs:=by
 unfold bK
 split
 .exact h
 .split
  .exact wd _ h
  .exact h
  .exact h
theorem jM(s:RS):(bK s).2.bs.length<=s.bs.length:=by
 unfold bK
 split
 .exact Vg _
 .split
  .simp only[Vt];omega
  .exact Vg _
  .exact Vg _
theorem we{s:RS}(h:aH s.bs):(bK s).1<18446744073709551616:=by
 unfold bK
 split
 .exact WH rfl
 .split
  .rename_i u n a;exact (qi h a).2.2
  .exact WH rfl
  .exact WH rfl
theorem rK{s:RS}{m:Int}(h:aH s.bs):aH (bX m s).2.bs:=by
 unfold bX
 split
 .exact h
 .split
  .split
   .exact h
   .exact wd _ h
  .exact h
  .exact h
theorem rL(s:RS)(m:Int):(bX m s).2.bs.length<=s.bs.length:=by
 unfold bX
 split
 .exact Vg _
 .split
  .split
   .exact Vg _
   .simp only[Vt];omega
  .exact Vg _
  .exact Vg _
theorem lF{s:RS}{m:Int}(h:aH s.bs):aH (aZ m s).2.bs/\aH (aZ m s).1:=by
 unfold aZ
 split
 .exact⟨h,kJ⟩
 .split
  .split
   .exact⟨h,kJ⟩
   .split
    .exact⟨h,kJ⟩
    .exact⟨wd _ h,λx a=>wd _ h x (VR a)⟩
  .exact⟨h,kJ⟩
  .exact⟨h,kJ⟩
theorem mr(s:RS)(m:Int):(aZ m s).2.bs.length<=s.bs.length/\(aZ m s).1.length<=s.bs.length:=by
 unfold aZ
 split
 .exact⟨Vg _,V3 _⟩
 .split
  .split
   .exact⟨Vg _,V3 _⟩
   .split
    .exact⟨Vg _,V3 _⟩
    .simp only[Vt,Vx];omega
  .exact⟨Vg _,V3 _⟩
  .exact⟨Vg _,V3 _⟩
section
variable {F L:List aE}{H:aC}{K:KE}
theorem OW{v:Int}:bU Tryz.prog 113 #[.int .i64 v] H (.int .u64 (qk v)):=by
 refine cM 113 28 ?_;exact⟨by decide,by decide,rfl,rfl⟩
theorem OX{u:Int}:bU Tryz.prog 297 #[.int .u64 u] H (.int .i64 (rI u)):=by
 refine cM 297 28 ?_;exact⟨by decide,rfl,rfl⟩
theorem qm{a:KQ}{c:Nat}{us:List Nat}(h:aA H F)(B:∀H,aA H F->aP H a (us.map λu=>.int .u64 (u:Nat)))(w:∀u∈us,u<18446744073709551616)(E:us.length<=1000000)
  (k:∀f d m,aA m (slA 5 1 f (eJ us).length d ((eJ us).map U8)::F)->K (.slice f (eJ us).length d) m) :
  CF 111 #[.slice a us.length c] H K:=by
 refine cN 111 0x1121561239925144c [[(3,sS),(8,sI)]] ?_;refine⟨λf C d i m=>∃j:Nat,i=j/\j<=us.length/\C=(eJ (us.take j)).length/\aA m (slA 5 1 f (eJ (us.take j)).length d ((eJ (us.take j)).map U8)::F),λ_ _ _ i _=>us.length-i.toNat,
  ⟨0,rfl,V3 _,rfl,h.sl_nil 5 1⟩,?_⟩
 rintro a1 n1 c1 i D ⟨j,rfl,G,rfl,n⟩;refine⟨λs=>?_,λs=>?_⟩
 .have b:j<us.length:=by simpa using s
  have y:=(B _ n.tl).at b;refine⟨⟨by omega,by omega⟩,_,_,y.1,us[j],y.2,?_⟩;have x:i64.wrap ((j:Int)+1)=((j+1:Nat):Int):=by rw[aJ];omega
  have e:eJ (us.take (j+1))=eJ (us.take j)++bQ us[j]:=jL b;have hb:(eJ (us.take j)).length<=1099511627776:=by
   have:=tM (l:=us.take j) λu t=>w u (VR t)
   rw[Vx]at this;omega
  refine vY n hb (w _ (Vk b)) λf d m A=>⟨_,_,_,rfl,⟨j+1,x,b,by rw[e],?_⟩,by rw[x];simp only[Vi];omega⟩
  rw[e];exact A
 .have v:us.length<=j:=by simpa using s
  have e:us.take j=us:=V2 v;rw[e]at n ⊢;exact k _ _ _ n
theorem EZ{a:KQ}{c:Nat}{vs:List Int}(h:aA H F)(y:∀H,aA H F->aP H a (vs.map λv=>.int .i64 v))(C:vs.length<=1000000)
  (k:∀f d m,aA m (slA 5 1 f (cX vs).length d ((cX vs).map U8)::F)->K (.slice f (cX vs).length d) m) :
  CF 51 #[.slice a vs.length c] H K:=by
 refine cN 51 0x1121561239925144c [[(3,sS),(8,sI)]] ?_;refine⟨λf A d i m=>∃j:Nat,i=j/\j<=vs.length/\A=(cX (vs.take j)).length/\aA m (slA 5 1 f (cX (vs.take j)).length d ((cX (vs.take j)).map U8)::F),λ_ _ _ i _=>vs.length-i.toNat,
  ⟨0,rfl,V3 _,rfl,h.sl_nil 5 1⟩,?_⟩
 rintro a1 n1 c1 i B ⟨j,rfl,D,rfl,n⟩;refine⟨λs=>?_,λs=>?_⟩
 .have b:j<vs.length:=by simpa using s
  have w:=(y _ n.tl).at b;refine⟨⟨by omega,by omega⟩,_,_,w.1,vs[j],w.2,_,OW,?_⟩;have u:i64.wrap ((j:Int)+1)=((j+1:Nat):Int):=by rw[aJ];omega
  have e:cX (vs.take (j+1))=cX (vs.take j)++bQ (turnN vs[j]):=jL b;have hb:(cX (vs.take j)).length<=1099511627776:=by
   have:=mq (vs.take j);rw[Vx]at this;omega
  conv=>whnf
  rw[<-zg];refine vY n hb (tK _) λf d m x=>⟨_,_,_,rfl,⟨j+1,u,b,by rw[e],?_⟩,by rw[u];simp only[Vi];omega⟩
  rw[e];exact x
 .have t:vs.length<=j:=by simpa using s
  have e:vs.take j=vs:=V2 t;rw[e]at n ⊢;exact k _ _ _ n
theorem wg{a:KQ}{c:Nat}{ts:List Fa}(h:aA H F)(C:∀H,aA H F->aP H a (ts.map λs=>.string s))(hs:∀i,(dD (ts.take i)).length<=1000000000)(E:∀s∈ts,s.size<=1000000000)(L:ts.length<=1000000)
  (k:∀m d n,aA n (slA 5 1 m (dD ts).length d ((dD ts).map U8)::F)->K (.slice m (dD ts).length d) n) :
  CF 131 #[.slice a ts.length c] H K:=by
 refine cN 131 0x1121561239925144c [[(3,sS),(8,sI)]] ?_;refine⟨λm D d i n=>∃j:Nat,i=j/\j<=ts.length/\D=(dD (ts.take j)).length/\aA n (slA 5 1 m (dD (ts.take j)).length d ((dD (ts.take j)).map U8)::F),λ_ _ _ i _=>ts.length-i.toNat,
  ⟨0,rfl,V3 _,rfl,h.sl_nil 5 1⟩,?_⟩
 rintro a1 n1 c1 i N ⟨j,rfl,M,rfl,t⟩;refine⟨λv=>?_,λv=>?_⟩
 .have b:j<ts.length:=by simpa using v
  have y:=(C _ t.tl).at b;have G:=E _ (Vk b);refine⟨⟨by omega,by omega⟩,_,_,y.1,ts[j],y.2,?_⟩;have A:i64.wrap ((j:Int)+1)=((j+1:Nat):Int):=by rw[aJ];omega
  have w:u64.wrap ((ts[j].size:Nat):Int)=((ts[j].size:Nat):Int):=u64w (by omega) (by omega);have e:dD (ts.take (j+1))=(dD (ts.take j)++bQ ts[j].size)++fe ts[j]:=by
   rw[Vj];exact jL (f:=cZ) b
  have hb:=hs j;have B:=nW (u:=ts[j].size) (by omega)
  conv=>whnf
  rw[w];refine vY t (by omega) (by omega) λm d n J=>⟨_,_,_,rfl,?_⟩
  refine J.appendS sl32 (ts:=9) (by kernel_rfl) 0 rfl (by rw[UZ];omega) (by rw[UZ];omega) λa2 c2 O I=>⟨_,_,_,rfl,⟨j+1,A,b,?_,?_⟩,by rw[A];simp only[Vi];omega⟩
  .rw [e,UZ (bs:=fe ts[j]),tt]
  .rw [e,UZ (bs:=fe ts[j]),tt,Vv (l₂:=fe ts[j])];exact I
 .have x:ts.length<=j:=by simpa using v
  have e:ts.take j=ts:=V2 x;rw[e]at t ⊢;exact k _ _ _ t
theorem nE{b:Nat}{s:RS}(h:aA H (crdA b s::F))(hb:aH s.bs)(v:s.bs.length<=1099511627776)
  (k:∀j,aA j (crdA b (bK s).2::F)->K (.int .u64 ((bK s).1:Nat)) j) :
  CF 171 #[.pointer (some ⟨b,0,none⟩)] H K:=by
 obtain⟨e,bs⟩:=s;dsimp only at hb v;obtain⟨a,c,h⟩:=iu.1 h;dsimp only at h;have y:=h.sl_rd 1 rfl;have x:=h.sl_nc 1 rfl;refine cM 171 4572 ?_;have d:=EW (c:=c) y hb v
 by_cases he:e=0
 .subst he
  cases hu:rdU 0 0 bs with
  | ok u n=>
   obtain⟨B,t,A⟩:=qi hb hu;rw[hu]at d;unfold firV at d;dsimp only at d;refine⟨_,_,_,h.r 0,_,_,_,d,?_⟩;have ec:bK ⟨0,bs⟩=(u,⟨0,bs.drop n⟩):=by unfold bK;simp[hu]
   rw[ec]at k;refine zf h t x λj i=>⟨_,rfl,(λf=>by cases f),λ_=>k _ ?_⟩
   have w:=i.sl_drop 1 rfl n t;rw[VT,<-List.map_drop]at w;refine iu.2 ⟨bZ a n c 1,c-n,?_⟩;dsimp only;rw[Vt];exact w
  | form=>
   rw[hu]at d;have ec:bK ⟨0,bs⟩=(0,⟨10,bs⟩):=by unfold bK;simp[hu]
   rw[ec]at k;refine⟨_,_,_,h.r 0,_,_,_,d,?_⟩;exact nC h (by decide) λj i=>⟨_,rfl,λ_=>k _ (iu.2 ⟨_,_,i⟩),λf=>by cases f⟩
  | ended=>
   rw[hu]at d;have ec:bK ⟨0,bs⟩=(0,⟨15,bs⟩):=by unfold bK;simp[hu]
   rw[ec]at k;refine⟨_,_,_,h.r 0,_,_,_,d,?_⟩;exact nC h (by decide) λj i=>⟨_,rfl,λ_=>k _ (iu.2 ⟨_,_,i⟩),λf=>by cases f⟩
 .have ec:bK ⟨e,bs⟩=(0,⟨e,bs⟩):=by unfold bK;simp[he]
  rw[ec]at k;have m:∃r r1 r2:Int,firV (rdU 0 0 bs)=.tuple #[.int .u64 r,.int .i64 r1,.int .i64 r2]:=by
   unfold firV
   split <;> exact⟨_,_,_,rfl⟩
  obtain⟨r,r1,r2,m⟩:=m;rw[m]at d;refine⟨_,_,_,h.r 0,_,_,_,d,?_⟩;exact vZ h he ⟨_,rfl,λ_=>k _ (iu.2 ⟨_,_,h⟩),λf=>by cases f⟩
theorem wh{b:Nat}{s:RS}(h:aA H (crdA b s::F))(hb:aH s.bs)(c:s.bs.length<=1099511627776)
  (k:∀a,aA a (crdA b (dF s).2::F)->K (.int .i64 (dF s).1) a) :
  CF 252 #[.pointer (some ⟨b,0,none⟩)] H K:=by
 refine cM 252 28 ?_;exact nE h hb c λa d=>⟨_,rfl,_,OX,k _ d⟩
theorem wi{b:Nat}{s:RS}(h:aA H (crdA b s::F))
  (k:∀m,aA m (crdA b (dG s)::F)->K (.int .i64 (dG s).e) m) :
  CF 177 #[.pointer (some ⟨b,0,none⟩)] H K:=by
 obtain⟨e,bs⟩:=s;obtain⟨a,c,h⟩:=iu.1 h;dsimp only at h;refine cN 177 18969756 [[]] ?_;refine⟨_,_,_,h.r 0,λt j=>⟨λi=>?_,λi=>?_⟩⟩
 .have f:bs≠[]:=by
   rintro rfl
   cases i
  by_cases d:e=0
  .subst d;have ec:dG ⟨0,bs⟩=⟨10,bs⟩:=by unfold dG;simp[f]
   rw[ec]at k;refine nC h (by decide) λm n=>⟨_,rfl,j _ ?_⟩
   exact⟨_,n.r 0,k _ (iu.2 ⟨_,_,n⟩)⟩
  .have ec:dG ⟨e,bs⟩=⟨e,bs⟩:=by unfold dG;simp[f,d]
   rw[ec]at k;refine vZ h d ⟨_,rfl,j _ ?_⟩;exact⟨_,h.r 0,k _ (iu.2 ⟨_,_,h⟩)⟩
 .have d:bs=[]:=by
   cases bs with
   | nil=>rfl
   | cons x r=>exfalso;simp at i
  have ec:dG ⟨e,bs⟩=⟨e,bs⟩:=by unfold dG;simp[d]
  rw[ec]at k;refine j _ ?_;exact⟨_,h.r 0,k _ (iu.2 ⟨_,_,h⟩)⟩
end
theorem OY{l a:List aE}(h:l.Perm a):star l=star a:=by
 induction h with
 | nil=>rfl
 | cons x _ ih=>simp only[star,ih]
 | swap x y l=>simp only[star];rw[vu]
 | trans _ _ ih1 ih2=>exact ih1.trans ih2
section
variable {κ α:Type}[DecidableEq κ]
theorem OZ{x:κ}{v:α}{m:List (κ×α)}(c:(aG m).Nodup)(h:aL x m=some v):m.Perm ((x,v)::bT x m):=by
 obtain⟨i,a,_⟩:=getElem?_of_mlook h;have b:=DY (u:=v) c a;have d:m.set i (x,v)=m:=by
  apply Wu;intro j;rw[List.getElem?_set]
  split
  .rename_i e;subst e;rw[a,UX (List.getElem?_eq_some_iff.1 a).1]
  .rfl
 rw[d]at b;exact b
end
structure Fy where
 a:KQ
 c:Nat
 bs:List Int
def Fy.z:Fy:=⟨none,0,[]⟩
abbrev dY(y:Fy):Value:=.slice y.a y.bs.length y.c
abbrev YM:=List (Int×Fy)
def rowY(y:Fy):aE:=slA 5 1 y.a y.bs.length y.c (y.bs.map U8)
def rowsY(m:YM):aE:=star (m.map λp=>rowY p.2)
theorem Pa{m m':YM}(h:m.Perm m'):rowsY m=rowsY m':=OY (h.map _)
theorem Ga(k:Int)(y:Fy)(m:YM):rowsY ((k,y)::m)=rowY y*rowsY m:=rfl
theorem zi{H:aC}{L:List aE}:aA H (emp::L)↔aA H L:=by unfold aA;simp only[star];rw[oE]
theorem aA.rowsY_out{H:aC}{L:List aE}{m:YM}{k:Int}{y:Fy}(b:(aG m).Nodup)(a:aL k m=some y):aA H (rowsY m::L)↔aA H (rowY y::rowsY (bT k m)::L):=by
 rw[Pa (OZ b a),Ga];exact gp
theorem aA.rowsY_in{H:aC}{L:List aE}{m:YM}{k:Int}{y:Fy}:aA H (rowsY (mset k y m)::L)↔aA H (rowY y::rowsY (bT k m)::L):=by
 unfold mset;rw[Ga];exact gp
abbrev DR:=List (Int×Int)
def bytesOf(f:Int)(rows:DR):List Int:=(rows.filter λr=>decide (r.1=f)).map Prod.snd
theorem qn(f:Int)(a b:DR):bytesOf f (a++b)=bytesOf f a++bytesOf f b:=by simp[bytesOf]
theorem zj(f:Int)(bs:List Int):bytesOf f (bs.map λb=>(f,b))=bs:=by
 induction bs with
 | nil=>rfl
 | cons b r ih=>simp only[bytesOf,V5,VD,decide_true,if_true]at ih ⊢;rw[ih]
theorem zk{f g:Int}(h:f≠g)(bs:List Int):bytesOf f (bs.map λb=>(g,b))=[]:=by
 induction bs with
 | nil=>rfl
 | cons b r ih=>
  have:¬g=f:=λe=>h e.symm
  simp[bytesOf,VD,this]at ih ⊢
  try exact ih
theorem Pd{f:Int}{t:DR}(h:∀r∈t,r.1=f):bytesOf f t=t.map Prod.snd:=by
 unfold bytesOf;rw[WQ.2 λr a=>by simp[h r a]]
theorem Pe{f g:Int}{t:DR}(h:∀r∈t,r.1=f)(b:g≠f):bytesOf g t=[]:=by
 unfold bytesOf;rw[Wq.2 λr a=>by simp[h r a];exact λe=>b e.symm]
 rfl
theorem Pf(f g:Int)(rows:DR):bytesOf g (rows.filter λr=>decide (r.1≠f))=if g=f then [] else bytesOf g rows:=by
 unfold bytesOf;rw[List.filter_filter]
 split
 .rename_i e;subst e;rw[Wq.2 λr _=>by simp];rfl
 .rename_i e;congr 1;apply WU;intro r _
  by_cases h:r.1=g
  .simp [h,e]
  .simp [h]
theorem tN(f:Int)(rows:DR):(bytesOf f rows).length<=rows.length:=by
 unfold bytesOf;rw[Vl];exact WV _ _
theorem Gb{f:Int}{rows:DR}:bytesOf f rows≠[]↔f∈rows.map Prod.fst:=by
 unfold bytesOf;rw[Ne,List.map_eq_nil_iff,Wq]
 constructor
 .intro h
  rcases Classical.em (f∈rows.map Prod.fst) with a|a
  .exact a
  .exact UY (λr b=>by simp;exact λe=>a (Vh.2 ⟨r,b,e⟩)) h
 .intro h a;obtain⟨r,b,e⟩:=Vh.1 h;have:=a r b;simp[e]at this
structure FOk(m:YM)(rows:DR):Prop where
 nd:(aG m).Nodup
 is:∀f,(aL f m).map Fy.bs=if bytesOf f rows=[] then none else some (bytesOf f rows)
theorem FOk.new:FOk [] []:=⟨by simp,λf=>by simp[bytesOf,aL]⟩
theorem FOk.get{m:YM}{rows:DR}(h:FOk m rows)(f:Int):((aL f m).getD Fy.z).bs=bytesOf f rows:=by
 have:=h.is f
 cases hm:aL f m with
 | none=>
  rw[hm]at this
  split at this
  .rename_i e;rw[e];rfl
  .cases this
 | some y=>
  rw[hm]at this
  split at this
  .cases this
  .exact Option.some.inj this
theorem FOk.some{m:YM}{rows:DR}(h:FOk m rows){f:Int}{y:Fy}(hm:aL f m=some y):y.bs=bytesOf f rows/\y.bs≠[]:=by
 have:=h.is f;rw[hm]at this
 split at this
 .cases this
 .rename_i a;have e:=Option.some.inj this;exact⟨e,by rw[e];exact a⟩
theorem FOk.none{m:YM}{rows:DR}(h:FOk m rows){f:Int}:aL f m=none↔bytesOf f rows=[]:=by
 have:=h.is f
 constructor
 .intro hm;rw[hm]at this
  split at this
  .assumption
  .cases this
 .intro hb;rw[UX hb]at this;exact Option.map_eq_none_iff.1 this
theorem FOk.keys{m:YM}{rows:DR}(h:FOk m rows){f:Int}:f∈aG m↔f∈rows.map Prod.fst:=by
 rw[<-Gb,Ne,<-h.none,fp,Classical.not_not]
theorem FOk.append{m:YM}{rows:DR}(h:FOk m rows){f:Int}{bs:List Int}{y:Fy}(hb:bs≠[])(a:y.bs=bytesOf f rows++bs):FOk (mset f y m) (rows++bs.map λb=>(f,b)):=by
 refine⟨oF h.nd,λg=>?_⟩
 rw[oG,qn]
 by_cases e:g=f
 .subst e;rw[UX rfl,zj,UW (by simp[hb])];simp[a]
 .rw [UW e,zk e,V4];exact h.is g
theorem FOk.cut{m:YM}{a t:DR}(h:FOk m (a++t)){f:Int}(c:∀r∈t,r.1=f) :
  (bytesOf f a=[]->FOk (bT f m) a)/\(∀y,y.bs=bytesOf f a->bytesOf f a≠[]->FOk (mset f y m) a):=by
 have b:∀g,g≠f->bytesOf g (a++t)=bytesOf g a:=λg d=>by rw[qn,Pe c d,V4]
 constructor
 .intro hb;refine⟨rk h.nd,λg=>?_⟩
  rw[vD]
  by_cases e:g=f
  .subst e;rw[UX rfl,UX hb];rfl
  .rw [UW e,<-b g e];exact h.is g
 .intro y i hb;refine⟨oF h.nd,λg=>?_⟩
  rw[oG]
  by_cases e:g=f
  .subst e;rw[UX rfl,UW hb,<-i];rfl
  .rw [UW e,<-b g e];exact h.is g
theorem FOk.delete{m:YM}{rows:DR}(h:FOk m rows)(f:Int):FOk (bT f m) (rows.filter λr=>decide (r.1≠f)):=by
 refine⟨rk h.nd,λg=>?_⟩
 rw[vD,Pf]
 by_cases e:g=f
 .rw [UX e,UX e,UX rfl];rfl
 .rw [UW e,UW e];exact h.is g
theorem zl:∀(rows:DR) (ks:List Int),ks.Nodup->(∀r∈rows,r.1∈ks)->(ks.map λk=>(bytesOf k rows).length).sum=rows.length
 | [],ks,_,_=>by
  have:∀l:List Int,(l.map λk=>(bytesOf k []).length).sum=0:=by
   intro l
   induction l with
   | nil=>rfl
   | cons k r b=>rw[V5,W0,b];rfl
  exact this ks
 | x::rows,ks,hn,h=>by
  have b:=zl rows ks hn (λr f=>h r (Vq _ f))
  have d:=h x Vn;have key:∀l:List Int,l.Nodup->(l.map λk=>(bytesOf k (x::rows)).length).sum=(l.map λk=>(bytesOf k rows).length).sum+(if x.1∈l then 1 else 0):=by
   intro l
   induction l with
   | nil=>intro _;rfl
   | cons k r ih2=>
    intro a;rw[Wv]at a;have i2:=ih2 a.2;simp only[V5,W0]
    by_cases e:x.1=k
    .have c:¬x.1∈r:=by rw[e];exact a.1
     rw[UW c]at i2;have:(bytesOf k (x::rows)).length=(bytesOf k rows).length+1:=by simp[bytesOf,VD,e]
     rw[this,i2,UX (by rw[e];exact Vn)];omega
    .have:(bytesOf k (x::rows)).length=(bytesOf k rows).length:=by simp[bytesOf,VD,e]
     rw[this,i2]
     by_cases e2:x.1∈r
     .rw [UX e2,UX (Vq _ e2)];omega
     .rw [UW e2,UW (by simp[e,e2])];omega
  rw[key ks hn,b,UX d,Vf]
theorem FOk.size{m:YM}{rows:DR}(h:FOk m rows):(m.map λp=>p.2.bs.length).sum=rows.length:=by
 have a:=zl rows (aG m) h.nd (λr b=>h.keys.2 (Vh.2 ⟨r,b,rfl⟩))
 rw[<-a];unfold aG;rw[VM];congr 1;apply Wp;intro p c;have:=h.some (md h.nd (show (p.1,p.2)∈m from c));simp only[Function.comp_def];rw[this.1]
theorem FOk.le{m:YM}{rows:DR}(h:FOk m rows):m.length<=rows.length:=by
 rw[<-h.size];have:∀l:YM,(∀p∈l,p.2.bs≠[])->l.length<=(l.map λp=>p.2.bs.length).sum:=by
  intro l
  induction l with
  | nil=>intro _;simp
  | cons p r ih=>
   intro a;have e:=ih λq c=>a q (Vq _ c)
   have d:=WO.2 (a p Vn);simp only[Vf,V5,W0];omega
 exact this m λp b=>(h.some (md h.nd (show (p.1,p.2)∈m from b))).2
def nX:List Int->List Int
 | []=>[]
 | a::r=>if a∈r then nX r else a::nX r
theorem zm{x:Int}:∀{l:List Int},x∈nX l↔x∈l
 | []=>Iff.rfl
 | a::r=>by
  have b:=zm (x:=x) (l:=r);unfold nX
  split
  .rename_i h;rw[b,Vm];exact⟨Or.inr,λc=>c.elim (λe=>by rw[e];exact h) id⟩
  .rw [Vm,Vm,b]
theorem zn:∀{l:List Int},(nX l).Nodup
 | []=>List.nodup_nil
 | a::r=>by
  unfold nX
  split
  .exact zn
  .rename_i h;rw[Wv];exact⟨λhm=>h (zm.1 hm),zn⟩
def bB(rows:DR):List Int:=sortI (nX (rows.map Prod.fst))
theorem zo:∀{l r:List Int},l.Pairwise (·< ·)->r.Pairwise (·< ·)->(∀x,x∈l↔x∈r)->l=r
 | [],[],_,_,_=>rfl
 | [],b::r,_,_,h=>UY ((h b).2 Vn) (by simp)
 | a::l,[],_,_,h=>UY ((h a).1 Vn) (by simp)
 | a::l,b::r,hl,hr,h=>by
  rw[VX]at hl hr;have e:a=b:=by
   rcases Vm.1 ((h a).1 Vn) with e|f
   .exact e
   .rcases Vm.1 ((h b).2 Vn) with e|d
    .exact e.symm
    .have:=hl.1 _ d;have:=hr.1 _ f;omega
  subst e;rw[zo hl.2 hr.2 λx=>?_]
  constructor
  .intro c
   rcases Vm.1 ((h x).1 (Vq _ c)) with e|d
   .have:=hl.1 _ c;omega
   .exact d
  .intro c
   rcases Vm.1 ((h x).2 (Vq _ c)) with e|d
   .have:=hr.1 _ c;omega
   .exact d
theorem Gc{l:List Int}(h:l.Nodup):(sortI l).Pairwise (·< ·):=by
 have b:=Ea l;have c:(sortI l).Nodup:=(qe l).nodup_iff.2 h;exact (b.and c).imp λa=>by have:=a.1;have:=a.2;omega
theorem oP(rows:DR):(bB rows).Pairwise (·< ·):=Gc zn
theorem jy{rows:DR}{f:Int}:f∈bB rows↔f∈rows.map Prod.fst:=by
 unfold bB;rw[(qe _).mem_iff,zm]
theorem FOk.files{m:YM}{rows:DR}(h:FOk m rows):sortI (aG m)=bB rows:=
 zo (Gc h.nd) (oP rows) λx=>by rw[(qe _).mem_iff,jy];exact h.keys
structure Pc where
 file:Int
 size:Int
abbrev lG(p:Pc):Os:=[.int .i64 p.file,.int .i64 p.size]
theorem nY(p:Pc):(lG p).length=2:=rfl
def gI(pend:List Pc):List Int:=pend.flatMap λp=>List.replicate p.size.toNat p.file
theorem tO(a b:List Pc):gI (a++b)=gI a++gI b:=by simp[gI]
theorem wj(p:Pc):gI [p]=List.replicate p.size.toNat p.file:=by simp[gI]
def cD(pend:List Pc):Int:=(pend.map Pc.size).sum
theorem oQ:∀{pend:List Pc},(∀p∈pend,1<=p.size)->((gI pend).length:Int)=cD pend
 | [],_=>rfl
 | p::r,h=>by
  have b:=oQ (pend:=r) λq a=>h q (Vq _ a)
  have c:=h p Vn;simp only[gI,cD,V6,UZ,List.length_replicate,V5,W0]at b ⊢;omega
theorem zp:∀{pend:List Pc},(∀p∈pend,1<=p.size)->pend.length<=(gI pend).length
 | [],_=>Vg _
 | p::r,h=>by
  have b:=zp (pend:=r) λq a=>h q (Vq _ a)
  have c:=h p Vn;simp only[gI,V6,UZ,List.length_replicate,Vf]at b ⊢;omega
structure DOk(m:YM)(pend:List Pc)(rows:DR)(syn:Nat):Prop where
 f:FOk m rows
 sle:syn<=rows.length
 p:gI pend=(rows.drop syn).map Prod.fst
 pos:∀q∈pend,1<=q.size
 keys:∀r∈rows,0<=r.1/\r.1<=2147483647
theorem DOk.new:DOk [] [] [] 0:=⟨FOk.new,Vg _,rfl,λ_ h=>(by cases h),λ_ h=>(by cases h)⟩
theorem DOk.len{m:YM}{pend:List Pc}{rows:DR}{syn:Nat}(h:DOk m pend rows syn):cD pend=(rows.length:Int)-syn:=by
 have a:=oQ h.pos;rw[h.p,Vl,Vt]at a;have:=h.sle;omega
theorem DOk.ple{m:YM}{pend:List Pc}{rows:DR}{syn:Nat}(h:DOk m pend rows syn):pend.length<=rows.length:=by
 have a:=zp h.pos;rw[h.p,Vl,Vt]at a;omega
def zabs(v:Int):Nat:=v.natAbs
def jz(a b:Int):Int×Int:=if aF (a+b) then (a+b,0) else (0,12)
def signS(n:Nat)(neg:Bool):Int×Int:=
 if neg then (if 9223372036854775808<n then (0,12) else (-(n:Int),0)) else (if 9223372036854775807<n then (0,12) else ((n:Int),0))
def oR(a b c:Int)(up:Bool):Int×Int:=
 if c<1 then (0,11) else
 if c.toNat<=zabs a*zabs b/18446744073709551616 then (0,12) else
 let q:=zabs a*zabs b/c.toNat
 if 9223372036854775808<q then (0,12) else
 let neg:=!(decide (a<0) == decide (b<0))
 signS (if !decide (zabs a*zabs b%c.toNat=0) && !(neg == up) then q+1 else q) neg
abbrev gu(rho:Int):Prop:=0<=rho/\rho<=100000
def lowS(x rho:Int):Int×Int:=
 if x < -4611686018427387904\/4611686018427387904<x\/¬gu rho then (0,11) else
 if 0<x then (if 1<(oR (x-1) 1000000 (1000000+rho) true).1 then (oR (x-1) 1000000 (1000000+rho) true).1 else 1,(oR (x-1) 1000000 (1000000+rho) true).2)
 else (i64.wrap (0-(oR (1-x) 1000000 (1000000-rho) false).1),(oR (1-x) 1000000 (1000000-rho) false).2)
def oS(x rho:Int):Int×Int:=
 if x < -4611686018427387904\/4611686018427387904<x then (0,11) else (i64.wrap (0-(lowS (-x) rho).1),(lowS (-x) rho).2)
theorem highS_wf(x rho:Int):aF (oS x rho).1:=by
 unfold oS
 split
 .simp [aF]
 .exact qg _
structure Gp where
 lo:Int
 hi:Int
deriving DecidableEq
def Gp.z:Gp:=⟨0,0⟩
abbrev jN(g:Gp):Os:=[.int .i64 g.lo,.int .i64 g.hi]
abbrev jO(g:Gp):Value:=.agg #[.int .i64 g.lo,.int .i64 g.hi]
abbrev Gp.ok(g:Gp):Prop:=g.lo<=g.hi
def meet2(a b:Gp):Gp:=⟨if b.lo>a.lo then b.lo else a.lo,if b.hi<a.hi then b.hi else a.hi⟩
def mt:Gp->List Gp->Gp×Int
 | s,[]=>if s.ok then (s,0) else (Gp.z,13)
 | s,g::r=>if g.ok then mt (meet2 s g) r else (Gp.z,10)
def kK(l:List Gp):Gp×Int:=mt ⟨-9223372036854775808,9223372036854775807⟩ l
theorem wk(g:Gp):(jN g).length=2:=rfl
def wl(g:Gp):Int:=if g.ok then u64.wrap ((u64.wrap g.hi)-(u64.wrap g.lo)) else 0
def midS(g:Gp):Int:=if g.ok then i64.wrap ((aY .and .i64 g.lo g.hi)+(Int.fdiv (aY .xor .i64 g.lo g.hi) (2^(min (Int.toNat 1) (i64.bits))))) else 0
section
variable {F L:List aE}{H:aC}{K:KE}
theorem Ge{a b:Int}(d:aF a)(hb:aF b):bU Tryz.prog 235 #[aB a,aB b] H (.tuple #[aB (jz a b).1,aB (jz a b).2]):=by
 refine Oi ?_;unfold ID;rw[add_over d hb];unfold jz;refine⟨λc=>?_,λc=>?_⟩
 .have:¬aF (a+b):=by simpa using c
  rw[UW this];exact⟨rfl,rfl⟩
 .have:aF (a+b):=by simpa using c
  rw[UX this];have e:i64.wrap (a+b)=a+b:=aJ (by unfold aF at this;omega) (by unfold aF at this;omega);rw[e];exact⟨rfl,rfl⟩
theorem Gf{v:Int}(h:aF v):bU Tryz.prog 330 #[aB v] H (.int .u64 (zabs v:Nat)):=by
 refine NK ?_;unfold zabs;unfold aF at h;refine⟨λa=>⟨?_,rfl⟩,λa=>⟨?_,rfl⟩⟩
 .simp only[Vc]at a;rw[dd,dd];congr 1;omega
 .simp only[Ve]at a;rw[dd];congr 1;omega
theorem Gh{n:Nat}{neg:Bool}(h:n<18446744073709551616):bU Tryz.prog 332 #[.int .u64 (n:Nat),.bool neg] H (.tuple #[aB (signS n neg).1,aB (signS n neg).2]):=by
 refine cM 332 4852664796 ?_;unfold signS
 cases neg
 .refine⟨λb=>by simp at b,λ_=>⟨λa=>?_,λa=>?_⟩⟩
  .have:9223372036854775807<n:=by simp only[Vc]at a;omega
   rw[UW Bool.false_ne_true,UX this];exact⟨rfl,rfl⟩
  .have:¬9223372036854775807<n:=by simp only[Ve]at a;omega
   conv=>whnf
   rw[UW Bool.false_ne_true,UW this,aJ];exact⟨rfl,rfl⟩
 .refine⟨λ_=>⟨λa=>?_,λa=>?_⟩,λb=>by simp at b⟩
  .have:9223372036854775808<n:=by simp only[Vc]at a;omega
   rw[UX rfl,UX this];exact⟨rfl,rfl⟩
  .have:¬9223372036854775808<n:=by simp only[Ve]at a;omega
   rw[UX rfl,UW this];have e:i64.wrap (u64.wrap (0-(n:Int)))=-(n:Int):=by rw[dd,jI];omega
   conv=>whnf
   rw[e];exact⟨rfl,rfl⟩
theorem Pg{x y:Nat}(c:x<18446744073709551616)(b:y<18446744073709551616) :
  bU Tryz.prog 329 #[.int .u64 (x:Nat),.int .u64 (y:Nat)] H (.tuple #[.int .u64 ((x*y/18446744073709551616:Nat):Int),.int .u64 ((x*y%18446744073709551616:Nat):Int)]):=by
 refine NL ?_;refine⟨by decide,by decide,by decide,by decide,by decide,?_⟩;have hm:=mul64_arith (x:Int) (y:Int) (by omega) (by omega) (by omega) (by omega);have key:∀a:Nat,u64.wrap (a:Int)=((a%18446744073709551616:Nat):Int):=u64m;have d:∀a:Nat,aY .and .u64 ((a%18446744073709551616:Nat):Int) 4294967295=((a%18446744073709551616%4294967296:Nat):Int):=λa=>tv (Wc _ (by decide))
 rw[tv c,tv b];simp only[vM,mulNN,addNN,key,d,and_true];show Value.tuple #[.int .u64 _,.int .u64 _]=_;congr 4
theorem Ph{s:Fa}{i:Nat}(h:i<s.size):bAt s i=((s[i]'h).toNat:Int):=by
 unfold bAt;rw[Array.getElem?_eq_getElem (show i<s.data.size from h)];rfl
theorem Pj{n:Nat}(h:n<18446744073709551616):bitLen n<=64:=by
 unfold bitLen
 split
 .omega
 .rename_i h0;have:=(Nat.log2_lt h0).2 (show n<2^64 from h);omega
theorem Gi{x:Nat}(h:x<18446744073709551616):bU Tryz.prog 315 #[.int .u64 (x:Nat)] H (aB (bitLen x:Nat)):=by
 refine NP ?_;have last:∀(y:Nat) (n:Nat),y<256->bitLen x=n+bitLen y->n<=64->mj.r1 (λu c=>u=aB (bitLen x:Nat)/\c=H) (y:Int) (n:Int) H:=by
  intro y n f hb j;unfold mj.r1;have m:u8.wrap (y:Int)=(y:Int):=u8w (by omega) (by omega);have s:=bitLen_le8 y f;rw[m];refine⟨⟨by omega,?_⟩,?_,rfl⟩
  .show (y:Int)<256;omega
  .rw [show bAt _ ((y:Int)).toNat=((bitLen y:Nat):Int) from (Ph (i:=y) (by show y<256;omega)).trans (congrArg Nat.cast (len8tab_get y (by show y<256;omega)))];rw[aJ (x:=((bitLen y:Nat):Int)),aJ,hb];congr 1
 have s2:∀(y:Nat) (n:Nat),y<65536->bitLen x=n+bitLen y->n<=56->mj.r2 (λu c=>u=aB (bitLen x:Nat)/\c=H) (y:Int) (n:Int) H:=by
  intro y n f hb j;unfold mj.r2;refine λk b=>⟨λa=>⟨by decide,?_⟩,λa=>b _ _ _ (last y n (by simp only[Ve]at a;omega) hb (by omega))⟩
  simp only[Vc]at a;have e:Int.fdiv (y:Int) (2^(min (Int.toNat 8) (u64.bits)))=((y/256:Nat):Int):=rr y 8;have d:i64.wrap ((n:Int)+8)=((n+8:Nat):Int):=by rw[aJ];omega
  rw[e,d];refine b _ _ _ (last (y/256) (n+8) (by omega) ?_ (by omega));have:=bitLen_shift y 8 (by simp only[Nat.reducePow];omega);rw[hb,this];simp only[Nat.reducePow];omega
 have s3:∀(y:Nat) (n:Nat),y<4294967296->bitLen x=n+bitLen y->n<=32->mj.r3 (λu c=>u=aB (bitLen x:Nat)/\c=H) (y:Int) (n:Int) H:=by
  intro y n f hb j;unfold mj.r3;refine λk b=>⟨λa=>⟨by decide,?_⟩,λa=>b _ _ _ (s2 y n (by simp only[Ve]at a;omega) hb (by omega))⟩
  simp only[Vc]at a;have e:Int.fdiv (y:Int) (2^(min (Int.toNat 16) (u64.bits)))=((y/65536:Nat):Int):=rr y 16;have d:i64.wrap ((n:Int)+16)=((n+16:Nat):Int):=by rw[aJ];omega
  rw[e,d];refine b _ _ _ (s2 (y/65536) (n+16) (by omega) ?_ (by omega));have:=bitLen_shift y 16 (by simp only[Nat.reducePow];omega);rw[hb,this];simp only[Nat.reducePow];omega
 refine λk b=>⟨λa=>⟨by decide,?_⟩,λa=>b _ _ _ (s3 x 0 (by simp only[Ve]at a;omega) (by omega) (by omega))⟩
 simp only[Vc]at a;rw[vM];refine b _ _ _ (s3 (x/4294967296) 32 (by omega) ?_ (by omega));have:=bitLen_shift x 32 (by simp only[Nat.reducePow];omega);rw[this]
theorem Pk{x:Nat}(h:x<18446744073709551616):bU Tryz.prog 364 #[.int .u64 (x:Nat)] H (aB ((64-bitLen x:Nat):Int)):=by
 refine N5 ?_;have a:=Pj h;refine⟨_,Gi h,?_,rfl⟩;rw[aJ];congr 1;omega
end
abbrev aD:=Value.int .i64
theorem mt98:l9 Tryz.prog 123 3 43 dY Fy.z:=qf Tryz.underlying123 (by kernel_rfl)
theorem ko3:nr Tryz.prog 3 aD:=vE Tryz.underlying3
theorem rM:SlT Tryz.prog 43 5 1 1:=iM (by kernel_rfl)
theorem slb99:SlT Tryz.prog 120 122 2 16:=iM (by kernel_rfl)
theorem slb44:SlT Tryz.prog 377 3 1 8:=iM (by kernel_rfl)
structure DS where
 fb:Nat
 pa:KQ
 pc:Nat
 pend:List Pc
 m:YM
abbrev diskC(db:Nat)(s:DS):aE:=cellsA db [.map (some s.fb),.slice s.pa s.pend.length s.pc] 125
abbrev j0(s:DS):aE:=mapA aD dY s.fb s.m
abbrev jh(s:DS):aE:=slA 122 2 s.pa s.pend.length s.pc (flat lG s.pend)
def diskX(db:Nat)(rows:DR)(syn:Nat):aE:=exS λs:DS=>star [pur (DOk s.m s.pend rows syn),diskC db s,j0 s,rowsY s.m,jh s]
section
variable {db:Nat}{rows:DR}{syn:Nat}{F L:List aE}{H:aC}{K:KE}
theorem qo(h:aA H (diskX db rows syn::F)):∃s:DS,DOk s.m s.pend rows syn/\aA H (diskC db s::j0 s::rowsY s.m::jh s::F):=by
 obtain⟨s,h⟩:=cJ.1 h;obtain⟨ok,h⟩:=aA.consP h.open;exact⟨s,ok,h⟩
theorem mw(s:DS)(ok:DOk s.m s.pend rows syn)(h:aA H (diskC db s::j0 s::rowsY s.m::jh s::F)):aA H (diskX db rows syn::F):=
 cJ.2 ⟨s,aA.shut [_,_,_,_,_] (aA.pur h ok)⟩
theorem New_spec(h:aA H F)(k:∀db a,aA a (diskX db [] 0::F)->K (.pointer (some ⟨db,0,none⟩)) a):CF 30 #[] H K:=by
 refine cM 30 28 ?_;refine h.alm aD dY λfb _ h=>h.al λdb _ h=>k db _ ?_
 have h:=(h.sl_nil 122 2).o [1,2,0] 3;refine mw ⟨fb,none,0,[],[]⟩ DOk.new ?_;have b:aA _ (emp::diskC db ⟨fb,none,0,[],[]⟩::j0 ⟨fb,none,0,[],[]⟩::jh ⟨fb,none,0,[],[]⟩::F):=zi.2 h;exact b.o [1,2,0,3] 4
theorem Pl(h:aA H (diskX db rows syn::F))(k:∀a,aA a (diskX db rows rows.length::F)->K (.tuple #[]) a):CF 92 #[.pointer (some ⟨db,0,none⟩)] H K:=by
 obtain⟨s,ok,h⟩:=qo h;refine cM 92 4 ?_;refine h.st 0 rfl rfl λ_ h=>k _ ?_
 have h:=(h.sl_nil 122 2).o [1,2,3,0] 5;exact mw ⟨s.fb,none,0,[],s.m⟩ ⟨ok.f,Vg _,by simp[gI],λ_ b=>(by cases b),ok.keys⟩ h
theorem Pm{f:Int}(w:rows.length<=1099511627776)(h:aA H (diskX db rows syn::F))
  (k1:bytesOf f rows=[]->∀b,aA b (diskX db rows syn::F)->K (.tuple #[.slice none 0 0,aD 23]) b)
  (k2:bytesOf f rows≠[]->∀a c b,aA b (slA 5 1 a (bytesOf f rows).length c ((bytesOf f rows).map U8)::diskX db rows syn::F)->K (.tuple #[.slice a (bytesOf f rows).length c,aD 0]) b) :
  CF 192 #[.pointer (some ⟨db,0,none⟩),aD f] H K:=by
 obtain⟨s,ok,h⟩:=qo h;refine cM 192 4572 ?_;have d:=h.mp_get mt98 ko3 1 rfl (x:=f);refine⟨_,h.r 0,?_⟩
 cases hm:aL f s.m with
 | none=>
  rw[hm]at d;refine⟨_,_,_,_,d,λ_=>?_,λi=>(by cases i)⟩
  exact k1 (ok.f.none.1 hm) _ (mw s ok h)
 | some y=>
  rw[hm]at d;obtain⟨e,k⟩:=ok.f.some hm;refine⟨_,_,_,_,d,λi=>(by cases i),λ_=>?_⟩
  have n:=(aA.rowsY_out ok.f.nd hm).1 (h.o [2,0,1,3] 4);refine zd n (λH h=>h.sl_rd 0 rfl) (by rw[Option.getD_some,e];have:=tN f rows;omega) λv u b t=>⟨_,_,_,rfl,?_⟩
  have j:=(aA.rowsY_out ok.f.nd hm).2 (t.o [1,2,3,4,5,0] 6);simp only[Option.getD_some]at j ⊢;rw[e]at j ⊢;exact k2 (by rw[<-e];exact k) _ _ _ ((mw (F:=_::F) s ok (j.o [1,2,0,3,4] 5)).o [1,0] 2)
theorem Pn{f:Int}(h:aA H (diskX db rows syn::F))
  (k1:bytesOf f rows=[]->∀a,aA a (diskX db rows syn::F)->K (aD 23) a)
  (k2:bytesOf f rows≠[]->syn<rows.length->∀a,aA a (diskX db rows syn::F)->K (aD 21) a)
  (k3:bytesOf f rows≠[]->¬syn<rows.length->∀a,aA a (diskX db (rows.filter λr=>decide (r.1≠f)) (rows.filter λr=>decide (r.1≠f)).length::F)->K (aD 0) a) :
  CF 189 #[.pointer (some ⟨db,0,none⟩),aD f] H K:=by
 obtain⟨s,ok,h⟩:=qo h;refine cM 189 18988316 ?_;have d:=h.mp_get mt98 ko3 1 rfl (x:=f);refine⟨_,h.r 0,?_⟩;have b:=ok.len
 cases hm:aL f s.m with
 | none=>
  rw[hm]at d;refine⟨_,_,_,_,d,λ_=>?_,λj=>(by cases j)⟩
  exact k1 (ok.f.none.1 hm) _ (mw s ok h)
 | some y=>
  rw[hm]at d;have c:bytesOf f rows≠[]:=λe=>by rw[ok.f.none.2 e]at hm;cases hm
  refine⟨_,_,_,_,d,λj=>(by cases j),λ_=>⟨_,_,_,h.r 0,λi=>?_,λi=>?_⟩⟩
  .refine k2 c ?_ _ (mw s ok h);have k:0<s.pend.length:=by have:=Va i;omega
   have t:=zp ok.pos;rw[ok.p,Vl,Vt]at t;omega
  .have k:s.pend=[]:=by
    have:s.pend.length=0:=by have:=Vb i;omega
    exact Wk.1 this
   have hs:¬syn<rows.length:=by
    rw[k]at b;simp only[cD,W9,List.sum_nil]at b;omega
   refine⟨_,h.r 0,h.mp_delete mt98 ko3 1 rfl λa h=>k3 c hs _ ?_⟩
   have n:=((aA.rowsY_out ok.f.nd hm).1 (h.o [2,0,1,3] 4)).o [2,3,1,4] 5;refine mw ⟨s.fb,s.pa,s.pc,s.pend,bT f s.m⟩ ⟨ok.f.delete f,Vg _,?_,ok.pos,λr u=>ok.keys r (Wd.1 u).1⟩ n
   rw[k,VY];rfl
theorem zq(A:rows.length<=1099511627776)(h:aA H (diskX db rows syn::F))(k:∀d,aA d (diskX db rows syn::F)->K (aD ((rows.length:Int)-syn)) d):CF 27 #[.pointer (some ⟨db,0,none⟩)] H K:=by
 obtain⟨s,ok,h⟩:=qo h;refine cN 27 0x1121561239925144c [[(3,sI),(11,sI)]] ?_;have c:=ok.len;have n:=ok.ple;have b:∀j,0<=cD (s.pend.take j)/\cD (s.pend.take j)<=cD s.pend:=by
  intro j;have e:cD s.pend=cD (s.pend.take j)+cD (s.pend.drop j):=by
   unfold cD;rw[<-List.sum_append,<-Vv,VO]
  have p1:=oQ (pend:=s.pend.take j) λq i=>ok.pos q (VR i)
  have p2:=oQ (pend:=s.pend.drop j) λq i=>ok.pos q (Wh i)
  omega
 refine⟨_,_,_,h.r 0,λsum t d=>∃j:Nat,t=j/\j<=s.pend.length/\sum=cD (s.pend.take j)/\aA d (diskC db s::j0 s::rowsY s.m::jh s::F),λ_ t _=>s.pend.length-t.toNat,
  ⟨0,rfl,V3 _,rfl,h⟩,?_⟩
 rintro sum t v ⟨j,rfl,w,rfl,h⟩;refine⟨λf=>?_,λf=>?_⟩
 .have a:j<s.pend.length:=by have:=Va f;omega
  have u:=h.sl_rd 3 rfl;refine⟨⟨by omega,by omega⟩,_,_,u.some nY (by omega) a,_,_,u.els nY a,h.al λb1 _ h=>h.st 0 rfl rfl λ_ h=>⟨_,h.r 0,?_⟩⟩
  have e1:cD (s.pend.take (j+1))=cD (s.pend.take j)+s.pend[j].size:=by
   unfold cD;rw[VE a,Vv,List.sum_append];simp
  have:=b (j+1);have:=b j;have y:=ok.pos _ (Vk a)
  conv=>whnf
  rw[aJ (x:=(j:Int)+1),aJ (x:=cD (s.pend.take j)+s.pend[j].size),<-e1];exact⟨⟨j+1,rfl,a,rfl,h.tl⟩,by simp only[Vi];omega⟩
 .obtain rfl:j=s.pend.length:=by have:=Vb f;omega
  rw[V8,c];exact k _ (mw s ok h)
end
def jj(f:Int)(parts:List Fy):DR:=(parts.flatMap Fy.bs).map λb=>(f,b)
theorem Gj(f:Int)(a b:List Fy):jj f (a++b)=jj f a++jj f b:=by simp[jj]
theorem Gk(f:Int)(p:Fy):jj f [p]=p.bs.map λb=>(f,b):=by simp[jj]
theorem Po(f:Int)(bs:List Int):(bs.map λb=>(f,b)).map Prod.fst=List.replicate bs.length f:=by
 induction bs with
 | nil=>rfl
 | cons b r ih=>simp only[V5,Vf,Yf,ih]
section
variable {db:Nat}{rows:DR}{syn:Nat}{F L:List aE}{H:aC}{K:KE}
theorem Pp{s:DS}{f n:Int}(R:1<=n)(P:n<=1099511627776)(c:∀q∈s.pend,1<=q.size)(V:cD s.pend<=1099511627776)(Q:s.pend.length<=1099511627776)(h:aA H (diskC db s::jh s::F))
  (k:∀(pa:KQ) (pc:Nat) (pend:List Pc) L,gI pend=gI s.pend++List.replicate n.toNat f->(∀q∈pend,1<=q.size)->
   aA L (diskC db ⟨s.fb,pa,pc,pend,s.m⟩::jh ⟨s.fb,pa,pc,pend,s.m⟩::F)->K (.tuple #[]) L) :
  CF 257 #[.pointer (some ⟨db,0,none⟩),aD f,aD n] H K:=by
 refine Oe ?_;have push:∀H,aA H (diskC db s::jh s::F)->∀(b3:Nat) (H_1:aC),b3=H.size->H_1=H.push (.cells #[aD f,aD n] 122)->
   cA Tryz.prog (Builtin.append_ #[120,120] 120 #[.slice s.pa s.pend.length s.pc,.slice (some ⟨b3,0,none⟩) 1 1]) H_1 λu C=>
    ∃(N:KQ) (sn sc:Nat),u=.slice N sn sc/\eQ C db (0+1) [.slice N sn sc]/\∀D:aC,D=fJ C db (0+1) [.slice N sn sc]->K (.tuple #[]) D:=by
  intro H h;refine h.al λb3 _ h=>?_
  refine aA.append (m:=1) (ws:=lG ⟨f,n⟩) slb99 h 2 rfl (h.ce_rd 0 rfl) rfl rfl (by omega) (by omega) λa2 c2 W h=>⟨_,_,_,rfl,?_⟩
  refine h.st 1 rfl rfl λU h=>k a2 c2 (s.pend++[⟨f,n⟩]) _ (by rw[tO,wj]) (λq b=>?_) ?_
  .rcases Vz.1 b with b|b
   .exact c q b
   .rw [Vo]at b;subst b;exact R
  .have B:aA U (cellsA db [.map (some s.fb),.slice a2 (s.pend.length+1) c2] 125::slA 122 2 a2 (s.pend.length+1) c2 (flat lG s.pend++lG ⟨f,n⟩)::F):=h.o [1,2] 3;rw[show flat lG s.pend++lG ⟨f,n⟩=flat lG (s.pend++[⟨f,n⟩]) by rw[dT,nq]]at B;simp only[diskC,jh,UZ,VN];exact B
 refine⟨_,_,_,h.r 0,λ_=>trivial,?_⟩
 rcases List.eq_nil_or_concat s.pend with e|⟨a,last,e⟩
 .have J:¬((0:Int)<(s.pend.length:Int)):=by rw[e];simp
  rw[VK J];exact⟨none,0,0,λd=>(by cases d),λd=>(by cases d),0,0,λd=>(by cases d),0,λd=>(by cases d),λd=>(by simp at d),λ_=>⟨_,_,_,h.r 0,push H h⟩⟩
 .rw [List.concat_eq_append]at e;have E:s.pend.length=a.length+1:=by rw[e];simp
  have e1:i64.wrap ((s.pend.length:Int)-1)=(a.length:Int):=by rw[aJ];omega
  rw[e1,Vs (show (0:Int)<(s.pend.length:Int) by omega)];have G:=h.sl_rd 1 rfl;have j:a.length<s.pend.length:=by omega
  have I:s.pend[a.length]=last:=by simp[e]
  have A:=G.some nY (by omega) j;have w:=G.el0 nY j (v:=aD last.file) (by rw[I];rfl);have t:=G.el nY j 1 (v:=aD last.size) (by rw[I];rfl);have M:=c last (by rw[e];simp);have T:cD s.pend=cD a+last.size:=by rw[e];simp[cD]
  have S:0<=cD a:=by rw[<-oQ λq b=>c q (by rw[e];exact WP _ b)];omega
  refine⟨_,_,_,λ_=>h.r 0,λ_=>⟨by omega,by omega⟩,_,_,λ_=>A,_,λ_=>w,λO=>?_,λO=>⟨_,_,_,h.r 0,push H h⟩⟩
  have d:last.file=f:=by simpa using O
  refine⟨_,_,_,h.rd 0 rfl _,⟨by omega,by omega⟩,_,_,A,_,t,⟨by omega,by omega⟩,_,_,A,?_⟩;rw[aJ (x:=last.size+n)];have i:=h.sl_set 1 rfl (a.length*2+1) [aD (last.size+n)] (by rw[eZ nY];simp only[VN];omega) (by simp);rw[<-VQ]at i;refine⟨i.2.1,?_⟩;rintro L rfl;have B:=i.2.2;rw[y7 nY (y:=⟨f,last.size+n⟩) (vs:=[aD (last.size+n)]) (f:=1) j (by simp) (by rw[I,<-d];rfl)]at B;have e2:s.pend.set a.length ⟨f,last.size+n⟩=a++[⟨f,last.size+n⟩]:=by rw[e];simp
  rw[e2]at B;have e3:s.pend.length=(a++[(⟨f,last.size+n⟩:Pc)]).length:=by rw[E];simp
  refine k s.pa s.pc (a++[⟨f,last.size+n⟩]) _ ?_ (λq b=>?_) ?_
  .rw [tO,wj,e,tO,wj,Vj,<-d,show (last.size+n).toNat=last.size.toNat+n.toNat by omega,<-List.replicate_append_replicate]
  .rcases Vz.1 b with b|b
   .exact c q (by rw[e];exact WP _ b)
   .rw [Vo]at b;subst b;simp only;omega
  .simp only[diskC,jh];rw[<-e3];exact B
theorem DOk.sizes_le{m:YM}{pend:List Pc}(ok:DOk m pend rows syn):cD pend<=rows.length:=by have:=ok.len;omega
theorem Pq{f:Int}{pa:KQ}{pc:Nat}{parts:List Fy}(hB:rows.length+(parts.flatMap Fy.bs).length<=1099511627776)(hP:parts.length<=1099511627776)
  (U:∀c,aA c F->aP c pa (parts.map dY)/\∀p∈parts,aP c p.a (p.bs.map U8)) (h:aA H (diskX db rows syn::F))
  (k1:f<0\/2147483647<f->∀c,aA c (diskX db rows syn::F)->K (aD 11) c)
  (k2:¬(f<0\/2147483647<f)->∀c,aA c (diskX db (rows++jj f parts) syn::F)->K (aD 0) c) :
  CF 193 #[.pointer (some ⟨db,0,none⟩),aD f,.slice pa parts.length pc] H K:=by
 refine cN 193 0x1d215612399251171494c [[],[(17,sI)]] ?_;refine⟨λL=>k1 (by simpa using L) _ h,λL=>?_⟩
 have Y:¬(f<0\/2147483647<f):=by simpa[Vp,not_or] using L
 refine⟨λt c=>∃j:Nat,t=j/\j<=parts.length/\aA c (diskX db (rows++jj f (parts.take j)) syn::F),λt _=>parts.length-t.toNat,⟨0,rfl,V3 _,by simpa[jj] using h⟩,?_⟩
 rintro t H1 ⟨j,rfl,hj,h⟩;refine⟨λE=>?_,λE=>?_⟩
 .have A:j<parts.length:=by have:=Va E;omega
  have C:=(U _ h.tl).1.at (j:=j) A;refine⟨⟨by omega,by omega⟩,_,_,C.1,_,_,_,C.2,?_⟩;intro Jn hJ;have M:parts.take (j+1)=parts.take j++[parts[j]]:=VE A;have fin:∀c,aA c (diskX db (rows++jj f (parts.take (j+1))) syn::F)->Jn c:=by
   intro c S;refine hJ _ ?_
   conv=>whnf
   rw[aJ (x:=(j:Int)+1)];exact⟨⟨j+1,rfl,A,S⟩,by simp only[Vi];omega⟩
  have P:=Vk A;have Q:=λc (S:aA c F)=>(U c S).2 _ P
  have I:(parts.take (j+1)).flatMap Fy.bs=(parts.take j).flatMap Fy.bs++parts[j].bs:=by rw[M,VW,V6,List.flatMap_nil,V4]
  have J:((parts.take (j+1)).flatMap Fy.bs).length<=(parts.flatMap Fy.bs).length:=by
   have:parts.flatMap Fy.bs=(parts.take (j+1)).flatMap Fy.bs++(parts.drop (j+1)).flatMap Fy.bs:=by rw[<-VW,VO]
   rw[this,UZ];omega
  rw[I,UZ]at J;have h3:(rows++jj f (parts.take j)).length=rows.length+((parts.take j).flatMap Fy.bs).length:=by simp[jj]
  generalize hrows:rows++jj f (parts.take j)=rows' at *;generalize parts[j]=p at *;refine⟨λB=>?_,λB=>?_⟩
  .have hb:p.bs≠[]:=λe=>by rw[e]at B;simp at B
   have h0:1<=p.bs.length:=WO.2 hb;obtain⟨s,ok,h⟩:=qo h;have N:=h.mp_get1 mt98 ko3 1 rfl (x:=f);have i:=ok.f.get f;have V:=tN f rows';refine⟨_,h.r 0,_,h.r 0,_,_,_,N,?_⟩;have W:aA H1 (rowY ((aL f s.m).getD Fy.z)::rowsY (bT f s.m)::diskC db s::j0 s::jh s::F):=by
    cases hm:aL f s.m with
    | none=>
     rw[kG hm];exact (h.sl_nil 5 1).o [0,3,1,2,4] 5
    | some y=>exact (aA.rowsY_out ok.f.nd hm).1 (h.o [2,0,1,3] 4)
   generalize hy:(aL f s.m).getD Fy.z=y at *;refine aA.append (m:=p.bs.length) (ws:=p.bs.map U8) rM W 0 rfl (Q _ W.tl.tl.tl.tl.tl) (by simp) (nu (λ_=>rfl) _) (by rw[i];omega) (by rw[i];omega) λw u H3 h=>⟨_,_,_,rfl,h.r 2,?_⟩
   have ey:slA 5 1 w (y.bs.length+p.bs.length) u (y.bs.map U8++p.bs.map U8)=rowY ⟨w,u,y.bs++p.bs⟩:=by
    unfold rowY;simp[UZ,Vv]
   have h:aA H3 (rowY ⟨w,u,y.bs++p.bs⟩::rowsY (bT f s.m)::diskC db s::j0 s::jh s::F):=by rw[<-ey];exact h
   have ev:(Value.slice w (y.bs.length+p.bs.length) u)=dY ⟨w,u,y.bs++p.bs⟩:=by simp
   rw[ev];refine h.mp_update (α:=Fy) (v:=⟨w,u,y.bs++p.bs⟩) mt98 ko3 3 rfl λH4 h=>?_
   have h:=(aA.rowsY_in (m:=s.m) (k:=f)).2 (h.o [0,1,2,3,4] 5);have h1:=DOk.sizes_le ok;have Z:=ok.ple;refine Pp (s:=s) (f:=f) (n:=p.bs.length) (F:=rowsY (mset f ⟨w,u,y.bs++p.bs⟩ s.m)::mapA aD dY s.fb (mset f ⟨w,u,y.bs++p.bs⟩ s.m)::F) (by omega) (by omega) ok.pos (by omega) (by omega) (h.o [1,3,0,2] 4)
    λT O D H5 R G h=>⟨rfl,fin _ ?_⟩
   have d:rows++jj f (parts.take (j+1))=rows'++p.bs.map λb=>(f,b):=by rw[M,Gj,Gk,<-Vj,hrows]
   rw[d];refine mw ⟨s.fb,T,O,D,mset f ⟨w,u,y.bs++p.bs⟩ s.m⟩ ⟨ok.f.append hb (by simp only;rw[i]),by rw[UZ];have:=ok.sle;omega,?_,G,λr C=>?_⟩ (h.o [0,3,2,1] 4)
   .rw [R,ok.p,List.drop_append_of_le_length ok.sle,Vv,Po];simp
   .rcases Vz.1 C with C|C
    .exact ok.keys r C
    .obtain⟨b,_,rfl⟩:=Vh.1 C;simp only;omega
  .have hb:p.bs=[]:=by
    have:p.bs.length=0:=by have:=Vb B;omega
    exact Wk.1 this
   refine fin _ ?_;have d:rows++jj f (parts.take (j+1))=rows':=by rw[M,Gj,Gk,<-Vj,hrows,hb];simp
   rw[d];exact h
 .obtain rfl:j=parts.length:=by have:=Vb E;omega
  rw[V8]at h;exact k2 Y _ h
theorem Gl(M:rows.length<=1099511627776)(h:aA H (diskX db rows syn::F))
  (k:∀a c d,aA d (slA 3 1 a (bB rows).length c ((bB rows).map aD)::diskX db rows syn::F)->K (.slice a (bB rows).length c) d) :
  CF 188 #[.pointer (some ⟨db,0,none⟩)] H K:=by
 obtain⟨s,ok,h⟩:=qo h;refine cN 188 0x112156123995141c [[(3,sS)]] ?_;have A:=ok.f.le;refine⟨_,h.r 0,h.rg_new mt98 1 rfl λt L h=>⟨_,rfl,?_⟩⟩
 have h:=h.sl_nil 3 1;refine⟨λla x lc d=>∃dn:YM,x=dn.length/\aA d (slA 3 1 la dn.length lc ((aG dn).map aD)::diskC db s::kH aD dY t s.fb s.m dn::rowsY s.m::jh s::F),
  λ_ _ _ d=>s.m.length-oI d t,⟨[],rfl,h⟩,?_⟩
 rintro la x lc I ⟨dn,rfl,h⟩;obtain⟨y,E⟩:=h.rg_count 2 rfl;refine h.rg_next 2 rfl (λC=>Or.inl ⟨rfl,λj=>(by cases j),λ_=>?_⟩) λp D G J h=>Or.inr ⟨_,_,rfl,λ_=>?_,λj=>(by cases j)⟩
 .have h:=h.rg_map 2 rfl;have B:(aG dn).length=dn.length:=by simp[aG]
  rw[<-B]at h ⊢;refine OU h 0 rfl (by omega) λw h=>⟨rfl,?_⟩
  have e1:sortI (aG dn)=bB rows:=by rw[<-ok.f.files];exact vF (C.map _)
  have e2:(aG dn).length=(bB rows).length:=by rw[<-e1,vG]
  rw[e1]at h;rw[e2]at h ⊢;exact k la lc _ ((mw (F:=_::F) s ok (h.o [1,2,3,4,0] 5)).o [1,0] 2)
 .have i:=aA.rg_entry (P:=Tryz.prog) h 2 rfl;obtain⟨u,e⟩:=h.rg_count 2 rfl;rw[UZ,VN]at u e;refine⟨_,_,i,?_⟩;refine h.al λb _ h=>?_
  refine aA.append (m:=1) (ws:=[aD p.1]) slb44 h 1 rfl (h.ce_rd 0 rfl) rfl rfl (by omega) (by omega) λa2 c2 w h=>⟨_,_,_,rfl,?_⟩
  refine⟨⟨dn++[p],by simp,?_⟩,?_⟩
  .have v:aA w (slA 3 1 a2 (dn.length+1) c2 ((aG dn).map aD++[aD p.1])::diskC db s::kH aD dY t s.fb s.m (dn++[p])::rowsY s.m::jh s::F):=h.o [1,2,3,4,5] 6;rw[show (aG dn).map aD++[aD p.1]=(aG (dn++[p])).map aD by simp[aG]]at v;simpa only[UZ,VN] using v
  .obtain⟨n,_⟩:=h.rg_count 3 rfl;rw[UZ,VN]at n;simp only;omega
end
theorem Pr{pend:List Pc}{j:Nat}(a:j<pend.length){k:Nat}(b:(gI (pend.take j)).length<=k)(c:k<(gI (pend.take j)).length+pend[j].size.toNat):(gI pend)[k]?=some pend[j].file:=by
 have e:gI pend=gI (pend.take j)++(List.replicate pend[j].size.toNat pend[j].file++gI (pend.drop (j+1))):=by
  rw[<-wj,<-tO,<-tO];congr 1;rw[List.singleton_append,<-VP a,VO]
 rw[e,List.getElem?_append_right b,List.getElem?_append_left (by rw[List.length_replicate];omega),List.getElem?_replicate,pO]
def fF(rows:DR)(syn:Nat)(keep:Int):DR:=rows.take (syn+(min (max keep 0) ((rows.length:Int)-syn)).toNat)
section
variable {db:Nat}{rows:DR}{syn:Nat}{F L:List aE}{H:aC}{K:KE}
theorem cut_spec{s:DS}{b t:DR}{f n:Int}(i:FOk s.m (b++t))(G:∀r∈t,r.1=f)(J:t≠[])(T:n=t.length)(U:(b++t).length<=1099511627776)(h:aA H (diskC db s::j0 s::rowsY s.m::F))
  (k:∀m' L,FOk m' b->aA L (diskC db { s with m:=m' }::j0 { s with m:=m' }::rowsY m'::F)->K (.tuple #[]) L) :
  CF 44 #[.pointer (some ⟨db,0,none⟩),aD f,aD n] H K:=by
 refine OD ?_;have N:=h.mp_get1 mt98 ko3 1 rfl (x:=f);have hb:bytesOf f (b++t)=bytesOf f b++t.map Prod.snd:=by rw[qn,Pd G]
 have w:bytesOf f (b++t)≠[]:=by rw[hb];simp[J]
 cases hm:aL f s.m with
 | none=>exact UY (i.none.1 hm) w
 | some y=>
  rw[hm]at N;obtain⟨B,Q⟩:=i.some hm;rw[hb]at B;have d:y.bs.length=(bytesOf f b).length+t.length:=by rw[B];simp
  have D:=tN f (b++t);rw[hb,<-B]at D;refine⟨_,h.r 0,_,_,_,N,λC=>?_,λC=>?_⟩
  .have A:bytesOf f b=[]:=by
    have:n=(y.bs.length:Int):=Va C;exact Wk.1 (by omega)
   refine⟨_,h.r 0,h.mp_delete mt98 ko3 1 rfl λL h=>?_⟩
   have u:=((aA.rowsY_out i.nd hm).1 (h.o [2,0,1] 3)).o [2,3,1] 4;exact k _ _ ((i.cut G).1 A) u
  .have A:bytesOf f b≠[]:=λe=>by
    have:¬n=(y.bs.length:Int):=Vb C;rw[e]at d;simp at d;omega
   have P:=WO.2 A;simp only[Option.getD_some];rw[aJ (x:=(y.bs.length:Int)-n)];have I:((y.bs.length:Int)-n).toNat=(bytesOf f b).length:=by omega
   rw[I];have u:=(aA.rowsY_out i.nd hm).1 (h.o [2,0,1] 3);have O:=u.sl_nc 0 rfl;have M:=(u.sl_rd 0 rfl).at (j:=0) (by omega);rw[slB0 M.1];refine⟨_,h.rd 0 rfl _,⟨by omega,by omega,by omega⟩,?_⟩;have E:=u.sl_take 0 rfl (bytesOf f b).length (by omega);have e3:slA 5 1 y.a (bytesOf f b).length y.c ((y.bs.map U8).take ((bytesOf f b).length*1))=rowY ⟨y.a,y.c,bytesOf f b⟩:=by
    unfold rowY;rw[B,VT,Vv];rw[show (bytesOf f b).length=((bytesOf f b).map U8).length by simp,List.take_left]
   have E:aA H (rowY ⟨y.a,y.c,bytesOf f b⟩::rowsY (bT f s.m)::diskC db s::j0 s::F):=by rw[<-e3];exact E
   refine E.mp_update (α:=Fy) (v:=⟨y.a,y.c,bytesOf f b⟩) mt98 ko3 3 rfl λS h=>?_
   have R:=((aA.rowsY_in (m:=s.m) (k:=f)).2 h).o [1,2,0] 3;exact k _ _ ((i.cut G).2 _ rfl A) R
theorem Ps{a:KQ}{n c:Nat}(h:aA H F)(k:∀c0 d,aA d (cellsA c0 [.slice a n c] 120::F)->K (.func (.func 98) #[] #[.pointer (some ⟨c0,0,none⟩)]) d):CF 43 #[.slice a n c] H K:=by
 refine cM 43 28 ?_;exact h.al λb _ h=>k b _ h
theorem Pt{l c0:Nat}{pa:KQ}{pc:Nat}{pend:List Pc}(B:pend.length<=1099511627776)(A:Nat->aE)(s:aE)
  (h:aA H (A pend.length::cellsA c0 [.slice pa pend.length pc] 120::slA 122 2 pa pend.length pc (flat lG pend)::F))
  (u:∀j (d:j<pend.length) (G:List aE) (c:aC) (f:KE),aA c (A (j+1)::G)->(∀b,aA b (A j::G)->f (.bool true) b)->(∀b,aA b (s::G)->f (.bool false) b)->
   fI Tryz.prog l [aD j,.agg #[aD pend[j].file,aD pend[j].size]] c f)
  (k:∀a,aA a (A 0::cellsA c0 [.slice pa pend.length pc] 120::slA 122 2 pa pend.length pc (flat lG pend)::F)->K (.tuple #[]) a)
  (w:∀a,aA a (s::cellsA c0 [.slice pa pend.length pc] 120::slA 122 2 pa pend.length pc (flat lG pend)::F)->K (.tuple #[]) a) :
  CF 98 #[.func (.yield l) #[] #[],.pointer (some ⟨c0,0,none⟩)] H K:=by
 refine cN 98 96300973186693524 [[(3,sI)]] ?_;have y:i64.wrap ((pend.length:Int)-1)=(pend.length:Int)-1:=aJ;refine⟨_,_,_,h.r 1,λi a=>∃j:Nat,i=(j:Int)-1/\j<=pend.length/\aA a (A j::cellsA c0 [.slice pa pend.length pc] 120::slA 122 2 pa pend.length pc (flat lG pend)::F),λi _=>(i+1).toNat,⟨pend.length,y,Vg _,h⟩,?_⟩
 rintro i c ⟨j,rfl,d,h⟩;refine⟨λe=>?_,λe=>?_⟩
 .obtain⟨q,rfl⟩:∃q,j=q+1:=⟨j-1,by have:=Va e;omega⟩;have eq:((q+1:Nat):Int)-1=(q:Int):=by omega
  rw[eq];have t:=h.sl_rd 2 rfl;refine⟨_,_,_,h.rd 1 rfl _,⟨by omega,by omega⟩,_,_,t.some nY (by omega) d,_,_,t.els nY d,?_⟩;refine u q d _ c _ h (λv n=>⟨true,rfl,λm=>(by cases m),λ_=>?_⟩) λv n=>⟨false,rfl,λ_=>w _ n,λm=>(by cases m)⟩
  conv=>whnf
  rw[aJ (x:=(q:Int)-1)];exact⟨⟨q,rfl,by omega,n⟩,by simp only;omega⟩
 .obtain rfl:j=0:=by have:=Vb e;omega
  exact k _ h
def crA(db b b1 l:Nat)(R:Loop)(s:DS)(rows:DR)(lost:Int)(j:Nat):aE:=
 exS λm:YM=>star [pur (FOk m (rows.take (rows.length-(min (max lost 0) (cD (s.pend.drop j))).toNat))),diskC db { s with m:=m },j0 { s with m:=m },rowsY m,cellsA b [.pointer (some ⟨db,0,none⟩)] 30,cellsA b1 [aD (lost-cD (s.pend.drop j))] 3,pt l (.loop R)]
def crX(db b l:Nat)(R:Loop)(s:DS)(rows:DR)(lost:Int):aE:=
 exS λm:YM=>star [pur (FOk m (rows.take (rows.length-(max lost 0).toNat))),diskC db { s with m:=m },j0 { s with m:=m },rowsY m,cellsA b [.pointer (some ⟨db,0,none⟩)] 30,pt l (.loop { R with state:=.done,pending:=some (.exit 0) })]
theorem Gm{pend:List Pc}(a:∀q∈pend,1<=q.size)(j:Nat):0<=cD (pend.drop j)/\cD (pend.drop j)+cD (pend.take j)=cD pend/\0<=cD (pend.take j):=by
 have e:cD pend=cD (pend.take j)+cD (pend.drop j):=by
  unfold cD;rw[<-List.sum_append,<-Vv,VO]
 have p1:=oQ (pend:=pend.take j) λq b=>a q (VR b)
 have p2:=oQ (pend:=pend.drop j) λq b=>a q (Wh b)
 omega
theorem Pu{s:DS}{b b1 j:Nat}{a:Int}{t C:aC}{R:Loop}{G:List aE}{w:KE}(ok:DOk s.m s.pend rows syn)(hB:rows.length<=1099511627776)(J:-9223372036854775808+1099511627776<=a+1099511627776)(L:a<=(rows.length:Int)-syn)(A:j<s.pend.length)
  (h:aA C (crA db b b1 (t.size+1) R s rows a (j+1)::G)) (Q:∀k,aA k (crA db b b1 (t.size+1) R s rows a j::G)->w (.bool true) k) (O:∀k,aA k (crX db b (t.size+1) R s rows a::G)->w (.bool false) k) :
  yZ.y1 b b1 t R [aD j,.agg #[aD s.pend[j].file,aD s.pend[j].size]] C w:=by
 obtain⟨m,h⟩:=cJ.1 h;obtain⟨n,h⟩:=aA.consP h.open;have h:aA C (diskC db { s with m:=m }::j0 { s with m:=m }::rowsY m::cellsA b [.pointer (some ⟨db,0,none⟩)] 30::cellsA b1 [aD (a-cD (s.pend.drop (j+1)))] 3::pt (t.size+1) (.loop R)::G):=h;have I:=ok.len;have H:=ok.sle;obtain⟨p1,p2,p3⟩:=Gm ok.pos (j+1);have S:s.pend.drop j=s.pend[j]::s.pend.drop (j+1):=VP A;have es:cD (s.pend.drop j)=s.pend[j].size+cD (s.pend.drop (j+1)):=by rw[S];unfold cD;rw[V5,W0]
 obtain⟨q1,q2,q3⟩:=Gm ok.pos j;have K:=ok.pos _ (Vk A);have N:=oQ (pend:=s.pend.take j) λq M=>ok.pos q (VR M)
 unfold yZ.y1;refine⟨_,_,_,rfl,h.getO 5 rfl,?_⟩;refine h.al λb2 _ h=>h.st 0 rfl rfl λ_ h=>⟨h.getO 6 rfl,h.stl 6 rfl λH6 h=>⟨_,h.r 5,λv=>?_,λv=>?_⟩⟩
 .have V:a-cD (s.pend.drop (j+1))<=0:=Va v;refine⟨h.getO 6 rfl,O _ ?_⟩;have h:=h.setO 6 rfl (.loop { R with state:=.done,pending:=some (.exit 0) });rw[show min (max a 0) (cD (s.pend.drop (j+1)))=max a 0 by omega]at n;exact cJ.2 ⟨m,aA.shut [_,_,_,_,_,_] (aA.pur (h.o [1,2,3,4,6] 7) n)⟩
 .have Y:¬a-cD (s.pend.drop (j+1))<=0:=Vb v;refine⟨_,h.r 4,_,h.r 0,_,h.r 0,_,h.r 5,?_⟩;generalize hcv:(if a-cD (s.pend.drop (j+1))<s.pend[j].size then a-cD (s.pend.drop (j+1)) else s.pend[j].size)=c
  have T:1<=c/\c<=s.pend[j].size/\c=min (s.pend[j].size) (a-cD (s.pend.drop (j+1))):=by rw[<-hcv];split <;> omega
  have e1:(min (max a 0) (cD (s.pend.drop (j+1)))).toNat=(cD (s.pend.drop (j+1))).toNat:=by congr 1;omega
  rw[e1]at n;generalize hD:(cD (s.pend.drop (j+1))).toNat=D at *;have U:cD (s.pend.drop (j+1))=D:=by omega
  have u:(rows.take (rows.length-D)).length=rows.length-D:=by rw[Vx];omega
  have d:rows.take (rows.length-D)=rows.take (rows.length-D-c.toNat)++(rows.take (rows.length-D)).drop (rows.length-D-c.toNat):=by
   conv=>lhs;rw[<-VO (rows.length-D-c.toNat) (rows.take (rows.length-D))]
   rw[List.take_take,Ww (by omega)]
  have f:((rows.take (rows.length-D)).drop (rows.length-D-c.toNat)).length=c.toNat:=by rw[Vt,u];omega
  have x:∀r∈(rows.take (rows.length-D)).drop (rows.length-D-c.toNat),r.1=s.pend[j].file:=by
   intro r Z;obtain⟨i,hi⟩:=List.getElem?_of_mem Z;have W:i<c.toNat:=by have:=(List.getElem?_eq_some_iff.1 hi).1;rw[f]at this;exact this
   rw[List.getElem?_drop,List.getElem?_take_of_lt (by omega)]at hi;have F:((rows.drop syn).map Prod.fst)[rows.length-D-c.toNat+i-syn]?=some r.1:=by
    rw[List.getElem?_map,List.getElem?_drop,show syn+(rows.length-D-c.toNat+i-syn)=rows.length-D-c.toNat+i by omega,hi];rfl
   rw[<-ok.p,Pr A (by omega) (by omega)]at F;exact (Option.some.inj F).symm
  have y:(rows.take (rows.length-D)).drop (rows.length-D-c.toNat)≠[]:=λe=>by rw[e]at f;simp at f;omega
  have B:(rows.take (rows.length-D-c.toNat)++(rows.take (rows.length-D)).drop (rows.length-D-c.toNat)).length<=1099511627776:=by rw[<-d,u];omega
  rw[d]at n;refine cut_spec (s:={ s with m:=m }) n x y (by rw[f];omega) B (h.o [1,2,3,0,4,5,6] 7) λm' H7 E h=>⟨rfl,_,h.r 5,_,h.r 3,?_⟩
  have P:a-cD (s.pend.drop (j+1))-s.pend[j].size=a-cD (s.pend.drop j):=by omega
  conv=>whnf
  rw[P,aJ];refine h.st 5 rfl rfl λH8 h=>⟨h.getO 6 rfl,Q _ ?_⟩
  have h:=h.setO 6 rfl (.loop R);refine cJ.2 ⟨m',aA.shut [_,_,_,_,_,_,_] (aA.pur (h.o [0,1,2,4,5,6] 7) ?_)⟩;have e2:rows.length-(min (max a 0) (cD (s.pend.drop j))).toNat=rows.length-D-c.toNat:=by omega
  rw[e2];exact E
theorem Pw{keep:Int}(E:aF keep)(A:rows.length<=1099511627776)(h:aA H (diskX db rows syn::F))
  (k:∀e,aA e (diskX db (fF rows syn keep) (fF rows syn keep).length::F)->K (.tuple #[]) e):CF 15 #[.pointer (some ⟨db,0,none⟩),aD keep] H K:=by
 refine OF ?_;unfold aF at E;refine h.al λb _ h=>⟨_,h.r 0,?_⟩
 refine zq (F:=cellsA b [.pointer (some ⟨db,0,none⟩)] 30::F) A (h.o [1,0] 2) λM h=>⟨_,rfl,?_⟩
 have t:(if 0>keep then 0 else keep)=max keep 0:=by split <;> omega
 obtain⟨s,ok,h⟩:=qo h;have y:=ok.sle;have B:=ok.len;have C:=ok.ple
 conv=>whnf
 rw[t,aJ (x:=(rows.length:Int)-syn-max keep 0)];generalize hlost:(rows.length:Int)-syn-max keep 0=lost;have i:rows.take (rows.length-(max lost 0).toNat)=fF rows syn keep:=by unfold fF;congr 1;omega
 refine h.al λb1 _ h=>h.st 0 rfl rfl λ_ h=>⟨_,h.r 5,cY ⟨_,_,_,h.r 1,?_⟩⟩
 refine Ps h λc0 c h=>⟨_,_,rfl,rfl,λR u n L=>?_⟩
 have h:=h.rng R;have h0:aA ((c.push (.deferred (some []))).push (.loop R)) (crA db b b1 (c.size+1) R s rows lost s.pend.length::cellsA c0 [.slice s.pa s.pend.length s.pc] 120::jh s::pt c.size (.deferred (some []))::F):=by
  refine cJ.2 ⟨s.m,aA.shut [_,_,_,_,_,_,_] (aA.pur ?_ ?_)⟩
  .rw [VY,show cD []=0 from rfl,Int.sub_zero];exact h.o [4,5,6,8,3,0,2,7,1] 9
  .rw [VY,show cD []=0 from rfl,show (min (max lost 0) 0).toNat=0 by omega,Nat.sub_zero,V8];exact ok.f
 have a:∀(m:YM) e,FOk m (fF rows syn keep)->aA e (cellsA db [.map (some s.fb),.slice none 0 0] 125::j0 { s with m:=m }::rowsY m::F)->aA e (diskX db (fF rows syn keep) (fF rows syn keep).length::F):=by
  intro m e d v;have v:=(v.sl_nil 122 2).o [1,2,3,0] 4;exact mw ⟨s.fb,none,0,[],m⟩ ⟨d,Vg _,by simp[gI],λ_ J=>(by cases J),λr Q=>ok.keys r (VR Q)⟩ v
 refine Pt (by omega) (λj=>crA db b b1 (c.size+1) R s rows lost j) (crX db b (c.size+1) R s rows lost) h0 (λj D G M S I O N=>L _ _ _ (Pu ok A (by omega) (by omega) D I O N)) (λw h=>?_) λw h=>?_
 .obtain⟨m,h⟩:=cJ.1 h;obtain⟨d,h⟩:=aA.consP h.open;have h:aA w (diskC db { s with m:=m }::j0 { s with m:=m }::rowsY m::cellsA b [.pointer (some ⟨db,0,none⟩)] 30::cellsA b1 [aD (lost-cD (s.pend.drop 0))] 3::pt (c.size+1) (.loop R)::cellsA c0 [.slice s.pa s.pend.length s.pc] 120::jh s::pt c.size (.deferred (some []))::F):=h;have e0:min (max lost 0) (cD (s.pend.drop 0))=max lost 0:=by rw[List.drop_zero];omega
  rw[e0,i]at d;refine⟨.ready,none,by decide,by rw[nt u n];exact h.getO 5 rfl,h.stl 5 rfl λP h=>Or.inl ⟨rfl,_,h.r 3,cY (h.st 0 rfl rfl λ_ h=>⟨h.getO 8 rfl,?_⟩)⟩⟩
  have h:=h.setO 8 rfl (.deferred none);exact k _ (a m _ d (h.o [0,1,2] 9))
 .obtain⟨m,h⟩:=cJ.1 h;obtain⟨d,h⟩:=aA.consP h.open;have h:aA w (diskC db { s with m:=m }::j0 { s with m:=m }::rowsY m::cellsA b [.pointer (some ⟨db,0,none⟩)] 30::pt (c.size+1) (.loop { R with state:=.done,pending:=some (.exit 0) })::cellsA c0 [.slice s.pa s.pend.length s.pc] 120::jh s::pt c.size (.deferred (some []))::F):=h;rw[i]at d;refine⟨.done,some (.exit 0),by decide,h.getO 4 rfl,h.stl 4 rfl λP h=>Or.inr ⟨rfl,_,h.r 3,cY (h.st 0 rfl rfl λ_ h=>⟨h.getO 7 rfl,?_⟩)⟩⟩
  have h:=h.setO 7 rfl (.deferred none);exact k _ (a m _ d (h.o [0,1,2] 8))
end
theorem Gn(rows:DR):(bB rows).length<=rows.length:=by
 unfold bB;rw[vG];have:∀l:List Int,(nX l).length<=l.length:=by
  intro l
  induction l with
  | nil=>exact Vg _
  | cons a r ih=>
   unfold nX
   split
   .simp only[Vf];omega
   .simp only[Vf];omega
 have:=this (rows.map Prod.fst);simpa using this
structure CD where
 what:Int
 file:Int
 keep:Int
 a:KQ
 c:Nat
 bs:List Int
theorem Px(rows:DR)(syn:Nat)(keep:Int):(fF rows syn keep).length<=rows.length:=by unfold fF;rw[Vx];omega
theorem rN{n:Nat}(h:n<4294967296):(BitVec.ofInt u32.bits (n:Int)).toNat=n:=by
 rw[Yd,Ye];exact Wj h
theorem xor32{n m:Nat}(a:n<4294967296)(hm:m<4294967296):aY .xor .u32 (n:Int) (m:Int)=((n^^^m:Nat):Int):=by
 unfold aY;rw[BitVec.toNat_xor,rN a,rN hm];have:n^^^m<2^32:=Nat.xor_lt_two_pow a hm;exact u32w (by omega) (by omega)
theorem and32{n m:Nat}(a:n<4294967296)(hm:m<4294967296):aY .and .u32 (n:Int) (m:Int)=((n &&& m:Nat):Int):=by
 unfold aY;rw[BitVec.toNat_and,rN a,rN hm];have:n &&& m<2^32:=Nat.and_lt_two_pow n hm;exact u32w (by omega) (by omega)
def stepC(n:Nat):Nat:=if n%2=1 then (n/2)^^^3988292384 else n/2
theorem stepC_lt{n:Nat}(h:n<4294967296):stepC n<4294967296:=by
 unfold stepC
 split
 .have:(n/2)^^^3988292384<2^32:=Nat.xor_lt_two_pow (by omega) (by decide);omega
 .omega
def wm:Nat->Nat->Nat
 | 0,n=>n
 | k+1,n=>stepC (wm k n)
theorem zr{n:Nat}(h:n<4294967296):∀k,wm k n<4294967296
 | 0=>h
 | k+1=>stepC_lt (zr h k)
def u32n(v:Int):Nat:=(u32.wrap v).toNat
theorem wo(v:Int):(u32n v:Int)=u32.wrap v/\u32n v<4294967296:=by
 unfold u32n;simp only[IntKind.wrap,IntKind.bits,IntKind.signed]
 first|omega|(simp;omega)
def byteC(n:Nat)(v:Int):Nat:=wm 8 (n^^^u32n v)
theorem zu{n m:Nat}(a:n<4294967296)(hm:m<4294967296):n^^^m<4294967296:=by
 have:n^^^m<2^32:=Nat.xor_lt_two_pow a hm;omega
theorem byteC_lt{n:Nat}{v:Int}(h:n<4294967296):byteC n v<4294967296:=zr (zu h (wo v).2) 8
def jP(n:Nat)(l:List Int):Nat:=l.foldl byteC n
theorem tP:∀{l:List Int} {n:Nat},n<4294967296->jP n l<4294967296
 | [],n,h=>h
 | v::r,n,h=>tP (l:=r) (byteC_lt h)
def kL(l:List Int):Int:=((4294967295^^^jP 4294967295 l:Nat):Int)
theorem zv(l:List Int):0<=kL l/\kL l<4294967296:=by
 have:=zu (n:=4294967295) (by decide) (tP (l:=l) (n:=4294967295) (by decide));unfold kL;omega
theorem crc_end(l:List Int):aY .xor .u32 u32.max (jP 4294967295 l:Int)=kL l:=by
 rw[show u32.max=((4294967295:Nat):Int) from rfl,xor32 (by decide) (tP (by decide))];rfl
theorem crc_byte{n:Nat}(h:n<4294967296)(v:Int):aY .xor .u32 (n:Int) (u32.wrap v)=((n^^^u32n v:Nat):Int):=by
 rw[<-(wo v).1,xor32 h (wo v).2]
theorem Gq(n:Nat)(l r:List Int):jP n (l++r)=jP (jP n l) r:=Wr ..
theorem Py{l:List Int}{n i:Nat}(h:i<l.length):jP n (l.take (i+1))=byteC (jP n (l.take i)) l[i]:=by
 rw[<-List.take_append_getElem h,Gq];rfl
theorem Pz{n:Nat}(h:n<4294967296) :
  aY .xor .u32 (Int.fdiv (n:Int) (2^(min (Int.toNat 1) (u32.bits)))) (aY .and .u32 (u32.wrap (0-(aY .and .u32 (n:Int) 1))) 3988292384)=(stepC n:Int):=by
 have e1:Int.fdiv (n:Int) (2^(min (Int.toNat 1) (u32.bits)))=((n/2:Nat):Int):=by
  show Int.fdiv (n:Int) 2=_;rw[Wx _ (by decide)];omega
 have e2:aY .and .u32 (n:Int) 1=((n%2:Nat):Int):=by
  rw[show (1:Int)=((1:Nat):Int) from rfl,and32 h (by decide),Nat.and_one_is_mod]
 rw[e1,e2];unfold stepC
 rcases Nat.mod_two_eq_zero_or_one n with h0|h0
 .rw [h0,UW (by decide)];have:aY .and .u32 (u32.wrap (0-((0:Nat):Int))) 3988292384=((0:Nat):Int):=by decide
  rw[this,xor32 (by omega) (by decide),Nat.xor_zero]
 .rw [h0,UX rfl];have:aY .and .u32 (u32.wrap (0-((1:Nat):Int))) 3988292384=((3988292384:Nat):Int):=by decide
  rw[this,xor32 (by omega) (by decide)]
theorem zw{parts:List Fy}{j:Nat}(h:j<parts.length):(parts.take (j+1)).flatMap Fy.bs=(parts.take j).flatMap Fy.bs++parts[j].bs:=by
 rw[VE h,VW];simp
theorem zz{H:aC}{a:KQ}{c:Nat}{parts:List Fy}(D:aP H a (parts.map dY))(E:∀y∈parts,aP H y.a (y.bs.map U8))(L:parts.length<=1099511627776)
  (G:∀y∈parts,y.bs.length<=1099511627776):bU Tryz.prog 165 #[.slice a parts.length c] H (.int .u32 (kL (parts.flatMap Fy.bs))):=by
 unfold bU;refine cN 165 0x11215612399251156123992511156123992514444c [[(3,.one (.int .u32)),(25,sI)],[(3,.one (.int .u32)),(17,sI)],[(3,.one (.int .u32)),(11,sI)]] ?_;refine⟨λs i v=>v=H/\∃j:Nat,i=j/\j<=parts.length/\s=(jP 4294967295 ((parts.take j).flatMap Fy.bs):Nat),λ_ i _=>parts.length-i.toNat,⟨rfl,0,rfl,V3 _,rfl⟩,?_⟩
 rintro s i v ⟨rfl,j,rfl,M,rfl⟩;refine⟨λd=>?_,λd=>?_⟩
 .have b:j<parts.length:=by simpa using d
  have u:=D.at b;have B:=E _ (Vk b);have w:=G _ (Vk b);have K:i64.wrap ((j:Int)+1)=((j+1:Nat):Int):=aJ;have x:=zw b;obtain⟨y,F⟩:∃y,parts[j]=y:=⟨_,rfl⟩;rw[F]at u B w x;refine⟨⟨by omega,by omega⟩,_,_,u.1,_,_,_,u.2,?_⟩;refine⟨λs i t=>t=v/\∃k:Nat,i=k/\k<=y.bs.length/\s=(jP (jP 4294967295 ((parts.take j).flatMap Fy.bs)) (y.bs.take k):Nat),λ_ i _=>y.bs.length-i.toNat,⟨rfl,0,rfl,V3 _,rfl⟩,?_⟩
  rintro s1 i1 J ⟨rfl,k,rfl,N,rfl⟩;have A:jP (jP 4294967295 ((parts.take j).flatMap Fy.bs)) (y.bs.take k)<4294967296:=tP (tP (by decide));refine⟨λd=>?_,λd=>?_⟩
  .have h:k<y.bs.length:=by simpa using d
   have C:=B.at h;have I:=zu A (wo y.bs[k]).2;refine⟨⟨by omega,by omega⟩,_,_,C.1,_,C.2,?_⟩
   conv=>whnf
   rw[crc_byte A];refine⟨λs i t=>t=J/\∃m:Nat,i=m/\m<=8/\s=(wm m (jP (jP 4294967295 ((parts.take j).flatMap Fy.bs)) (y.bs.take k)^^^u32n y.bs[k]):Nat),λ_ i _=>8-i.toNat,⟨rfl,0,rfl,V3 _,rfl⟩,?_⟩
   rintro s1 i1 t ⟨rfl,m,rfl,hm,rfl⟩;have hs:=zr I m;refine⟨λf=>?_,λf=>?_⟩
   .have n:m<8:=by simp at f;omega
    have e1:i64.wrap ((m:Int)+1)=((m+1:Nat):Int):=aJ;refine⟨by decide,?_⟩
    conv=>whnf
    rw[Pz hs,e1];exact⟨⟨rfl,m+1,rfl,by omega,rfl⟩,by dsimp only;omega⟩
   .have n:m=8:=by simp at f;omega
    subst n;have e1:i64.wrap ((k:Int)+1)=((k+1:Nat):Int):=aJ
    conv=>whnf
    rw[e1];refine⟨⟨rfl,k+1,rfl,by omega,?_⟩,by dsimp only;omega⟩;rw[Py h];rfl
  .have e:k=y.bs.length:=by simp at d;omega
   subst e
   conv=>whnf
   rw[K];refine⟨⟨rfl,j+1,rfl,by omega,?_⟩,by dsimp only;omega⟩;rw[x,Gq,V8]
 .have e:j=parts.length:=by simp at d;omega
  subst e;rw[V8];exact⟨congrArg (Value.int .u32) (crc_end _),rfl⟩
end Go.Proofs.YtaaieblnikcndaaGreatDoor
