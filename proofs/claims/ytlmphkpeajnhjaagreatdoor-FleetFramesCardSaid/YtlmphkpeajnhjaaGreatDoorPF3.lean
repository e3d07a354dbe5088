/-
  Lemmas for FleetFrames: part 3 of what it rests on. Conditions: none.
-/
import Derived.Shelf.SlSortCmp.NoneTotal
import Derived.Test.YtlmphkpeajnhjaaGreatDoorPF2
set_option linter.unusedVariables false
set_option linter.unusedSimpArgs false
set_option maxRecDepth 100000
set_option maxHeartbeats 16000000
open Go.IntKind (i64 u64 i8 u8 i32 u32 i16 u16)
namespace Go.Proofs.YtlmphkpeajnhjaaGreatDoor
open Go
abbrev akT(c:Prop)(f:FuncId)(l:Xa)(H:aC)(k:Int->Prop):Prop:=∃a0,(c->CQ f ⟨l⟩ H (aB a0))/\k a0
abbrev akS(c:Prop)(H:aC)(b o:Nat)(k:Bool->Prop):Prop:=∃a0,(c->aM H b o=some (.bool a0))/\k a0
abbrev akU(c:Prop)(f:FuncId)(l:Xa)(H:aC)(k:Bool->Prop):Prop:=∃a0,(c->CQ f ⟨l⟩ H (.bool a0))/\k a0
abbrev ahN(a0:Value)(a1:KQ)(a2 a3:Nat):Xa:=[a0,.slice a1 a2 a3]
abbrev AU(H:aC)(b o:Nat)(k:Xa->Prop):Prop:=∃a0 a1 a2 a3 a4 a5 a6 a7 a8 a9 D_ E6 a12 Ft F_,bE H b o ([aB a0,aB a1,aB a2,aB a3,aB a4,aB a5,aB a6,aB a7,aB a8,aB a9,aB D_,aB E6,aB a12,aB Ft,aB F_])/\k ([aB a0,aB a1,aB a2,aB a3,aB a4,aB a5,aB a6,aB a7,aB a8,aB a9,aB D_,aB E6,aB a12,aB Ft,aB F_])
abbrev af9(f:FuncId)(l:Xa)(H:aC)(k:Xa->aC->Prop):Prop:=CF f ⟨l⟩ H λu H'=>∃a0 a1 a2 a3 a4 a5 a6 a7 a8 a9 D_ E6 a12 Ft F_,u=.agg ⟨[aB a0,aB a1,aB a2,aB a3,aB a4,aB a5,aB a6,aB a7,aB a8,aB a9,aB D_,aB E6,aB a12,aB Ft,aB F_]⟩/\k ([aB a0,aB a1,aB a2,aB a3,aB a4,aB a5,aB a6,aB a7,aB a8,aB a9,aB D_,aB E6,aB a12,aB Ft,aB F_]) H'
abbrev Jq(f:FuncId)(l:Xa)(H:aC)(k:Xa->Int->aC->Prop):Prop:=CF f ⟨l⟩ H λu H'=>∃a0 a1 a2 a3 a4 a5 a6 a7 a8 a9 D_ E6 a12 Ft F_ a15 a16 a17 a18 a19 a20,u=.tuple #[.agg ⟨[aB a0,aB a1,aB a2,aB a3,aB a4,aB a5,aB a6,aB a7,aB a8,aB a9,.slice D_ E6 a12,.string Ft,.slice F_ a15 a16,.slice a17 a18 a19]⟩,aB a20]/\k ([aB a0,aB a1,aB a2,aB a3,aB a4,aB a5,aB a6,aB a7,aB a8,aB a9,.slice D_ E6 a12,.string Ft,.slice F_ a15 a16,.slice a17 a18 a19]) a20 H'
abbrev aiu(a0:Bool)(a1 a2:Int)(a3:KQ)(a4 a5:Nat):Value:=.agg ⟨[.bool a0,aB a1,aB a2,.slice a3 a4 a5]⟩
variable {H:aC}{K:KE}{F:List aF}{c b n:Nat}{a:KQ}{f:Nat->Int}{x v:Int}{P:Program}{r:Xa}{t:List Int}{A:Go.Shelf.Ren}{G:Bool}
theorem RU{l:Int}{d:Int}{e:Int}{f:Int}{g:Int}{i:Int}{j:Int}{k:Int}{a0:Int}{a1:Int}{a2:Int}{a3:Int}{a4:Int}{s:KQ}(h : AL H (uV x v l d e f g i j k a0 a1 a2 a3 a4) 27 λa c7=>Xz 6 [] c7 λc8 z=>IF (!c8) (K (.bool false) z) (AU z a 0 λc9=>Xz 7 (ahN (.agg ⟨c9⟩) s c n) z λr1 a5=>IF r1 (K (.bool true) a5) (AU a5 a 0 λd0=>SJ 8 (ahN (.agg ⟨d0⟩) s c n) a5 λr2 a6=>IF r2.isNone (AU a6 a 0 λd1=>af9 9 [.agg ⟨d1⟩] a6 λd2 d3=>Xz 10 [.agg ⟨d2⟩] d3 λd4 d5=>K (.bool (!d4)) d5) (SJ 19 [.pointer r2] a6 λa7 b3=>IF a7.isNone (K (.bool false) b3) (Hi 27 [.pointer a7] b3 λd6 a8 g5 d7=>∃(b1:eH) (c5:hZ),b1 0 d7/\ ∀p w,b1 p w->ID (p<a8) (IA p a8 d6 λd8 d9=>aO w d8 (d9+p.toNat) λe0=>CF 28 ⟨(ib a7 e0)⟩ w λe1 e2=>∃b9 c0 c1 c2 c3 c4 o,e1=(mD (aiu b9 c0 c1 c2 c3 c4) o)/\ AL e2 uT 92 λq e3=>ST e3 q 0 (ahR b9 c0 c1 c2 c3 c4) λb4=>dN b4 q 3 λe4 e5 e6=>Jq 29 [.slice e4 e5 e6] b4 λe7 a9 e8=>AL e8 pw 99 λb5 e9=>ST e9 b5 0 e7 λm=>lI ((!o)=false) m q 2 λr=>akT ((!o)=false) 14 [.pointer r2] m λt=>akS (((!o)||(decide (t<r)))=false) m q 0 λb=>lI ((((!o)||(decide (t<r)))=false)/\b=true) m q 1 λf0=>akU ((((!o)||(decide (t<r)))=false)/\b=true) 30 (ib r2 f0) m λb0=>lI (((((!o)||(decide (t<r)))=false)/\(!(b&&b0))=true)/\(!decide (a9=0))=false) m b5 1 λf1=>lI (((((!o)||(decide (t<r)))=false)/\(!(b&&b0))=true)/\(!decide (a9=0))=false) m q 1 λf2=>IF (((!o)||(decide (t<r)))||((!(b&&b0))&&((!decide (a9=0))||(!decide (f1=f2))))) (K (.bool false) m) (b1 (i64.wrap (p+1)) m/\c5 (i64.wrap (p+1)) m<c5 p w)) (Hi 11 [.pointer r2] w λf3 b6 g6 f4=>∃(b2:eH) (c6:hZ),b2 0 f4/\ ∀i1 u,b2 i1 u->ID (i1<b6) (IA i1 b6 f3 λf5 f6=>dN u f5 (f6+i1.toNat) λf7 f8 f9=>Jq 29 [.slice f7 f8 f9] u λg0 b7 g1=>AL g1 pw 99 λb8 g2=>ST g2 b8 0 g0 λy=>lI ((!decide (b7=0))=false) y b8 0 λg3=>IF ((!decide (b7=0))||(!decide (g3=8))) (K (.bool false) y) (b2 (i64.wrap (i1+1)) y/\c6 (i64.wrap (i1+1)) y<c6 i1 u)) (aO u a 14 λg4=>K (.bool (decide (a8<=g4))) u))))))):CF 5 ⟨(ahN (ad2 x v l d e f g i j k a0 a1 a2 a3 a4) s c n)⟩ H K:=cE 0x1dd1d1d12156213992511b41215621399251b4c [[(14,sI)],[(8,sI)]] h
open Go.Shelf
def Tryz.aan:Go.Shelf.Ren:=⟨fun|7=>135|10=>224|n=>n,fun|23=>298|26=>2|3=>169|28=>187|0=>0|27=>186|33=>102|4=>4|n=>n,fun|n=>n⟩
theorem Tryz.agp:Go.Proofs.SlLaysZI.n7 Tryz.prog Tryz.aan:={
 mixed:=kf
 f7:=⟨Tryz.f135.name,ee,zt Tryz.func135⟩
 f10:=⟨Tryz.f224.name,ee,zt Tryz.func224⟩
 t0:=Tryz.underlying0
 a0:=Tryz.isAgg0
 z0:=Tryz.sizeOf0
 v0:=Tryz.zeroValue0
 t4:=Tryz.underlying4
 a4:=Tryz.isAgg4
 z4:=Tryz.sizeOf4
 v4:=Tryz.zeroValue4
 t23:=Tryz.underlying298
 a23:=Tryz.isAgg298
 z23:=Tryz.sizeOf298
 v23:=Tryz.zeroValue298
 t26:=Tryz.underlying2
 a26:=Tryz.isAgg2
 z26:=Tryz.sizeOf2
 v26:=Tryz.zeroValue2
 t27:=Tryz.underlying186
 a27:=Tryz.isAgg186
 z27:=Tryz.sizeOf186
 v27:=Tryz.zeroValue186
 t28:=Tryz.underlying187
 a28:=Tryz.isAgg187
 z28:=Tryz.sizeOf187
 v28:=Tryz.zeroValue187
 t33:=Tryz.underlying102
 a33:=Tryz.isAgg102
 z33:=Tryz.sizeOf102
 v33:=Tryz.zeroValue102 }
def Tryz.XX:Go.Shelf.Ren:=⟨fun|7=>226|10=>296|n=>n,fun|23=>426|26=>2|3=>69|28=>187|0=>0|27=>186|33=>102|4=>4|n=>n,fun|n=>n⟩
theorem Tryz.acn:Go.Proofs.SlLaysZI.n7 Tryz.prog Tryz.XX:={
 mixed:=kf
 f7:=⟨Tryz.f226.name,ee,zt Tryz.func226⟩
 f10:=⟨Tryz.f296.name,ee,zt Tryz.func296⟩
 t0:=Tryz.underlying0
 a0:=Tryz.isAgg0
 z0:=Tryz.sizeOf0
 v0:=Tryz.zeroValue0
 t4:=Tryz.underlying4
 a4:=Tryz.isAgg4
 z4:=Tryz.sizeOf4
 v4:=Tryz.zeroValue4
 t23:=Tryz.underlying426
 a23:=Tryz.isAgg426
 z23:=Tryz.sizeOf426
 v23:=Tryz.zeroValue426
 t26:=Tryz.underlying2
 a26:=Tryz.isAgg2
 z26:=Tryz.sizeOf2
 v26:=Tryz.zeroValue2
 t27:=Tryz.underlying186
 a27:=Tryz.isAgg186
 z27:=Tryz.sizeOf186
 v27:=Tryz.zeroValue186
 t28:=Tryz.underlying187
 a28:=Tryz.isAgg187
 z28:=Tryz.sizeOf187
 v28:=Tryz.zeroValue187
 t33:=Tryz.underlying102
 a33:=Tryz.isAgg102
 z33:=Tryz.sizeOf102
 v33:=Tryz.zeroValue102 }
def Tryz.XW:Go.Shelf.Ren:=⟨fun|7=>451|10=>471|n=>n,fun|23=>292|26=>2|3=>260|28=>187|0=>0|27=>186|33=>102|4=>4|n=>n,fun|n=>n⟩
theorem Tryz.acm:Go.Proofs.SlLaysZI.n7 Tryz.prog Tryz.XW:={
 mixed:=kf
 f7:=⟨Tryz.f451.name,ee,zt Tryz.func451⟩
 f10:=⟨Tryz.f471.name,ee,zt Tryz.func471⟩
 t0:=Tryz.underlying0
 a0:=Tryz.isAgg0
 z0:=Tryz.sizeOf0
 v0:=Tryz.zeroValue0
 t4:=Tryz.underlying4
 a4:=Tryz.isAgg4
 z4:=Tryz.sizeOf4
 v4:=Tryz.zeroValue4
 t23:=Tryz.underlying292
 a23:=Tryz.isAgg292
 z23:=Tryz.sizeOf292
 v23:=Tryz.zeroValue292
 t26:=Tryz.underlying2
 a26:=Tryz.isAgg2
 z26:=Tryz.sizeOf2
 v26:=Tryz.zeroValue2
 t27:=Tryz.underlying186
 a27:=Tryz.isAgg186
 z27:=Tryz.sizeOf186
 v27:=Tryz.zeroValue186
 t28:=Tryz.underlying187
 a28:=Tryz.isAgg187
 z28:=Tryz.sizeOf187
 v28:=Tryz.zeroValue187
 t33:=Tryz.underlying102
 a33:=Tryz.isAgg102
 z33:=Tryz.sizeOf102
 v33:=Tryz.zeroValue102 }
def Tryz.Hl:Go.Shelf.Ren:=⟨fun|6=>82|8=>153|9=>99|11=>236|13=>177|12=>176|23=>264|24=>265|14=>255|15=>256|16=>257|17=>258|18=>259|19=>260|20=>261|21=>262|22=>263|25=>333|26=>334|27=>335|28=>336|29=>337|30=>269|31=>396|n=>n,fun|26=>2|28=>187|24=>88|0=>0|3=>3|37=>330|48=>329|50=>175|4=>4|40=>472|39=>471|45=>477|5=>5|9=>9|51=>566|55=>569|57=>626|58=>627|33=>102|n=>n,fun|n=>n⟩
theorem Tryz.aeh:Go.Proofs.SlLaysZI.n6 Tryz.prog Tryz.Hl:={
 mixed:=kf
 f6:=⟨Tryz.f82.name,ee,zt Tryz.func82⟩
 f8:=⟨Tryz.f153.name,ee,zt Tryz.func153⟩
 f11:=⟨Tryz.f236.name,ee,zt Tryz.func236⟩
 t0:=Tryz.underlying0
 a0:=Tryz.isAgg0
 z0:=Tryz.sizeOf0
 v0:=Tryz.zeroValue0
 t24:=Tryz.underlying88
 a24:=Tryz.isAgg88
 z24:=Tryz.sizeOf88
 v24:=Tryz.zeroValue88
 t26:=Tryz.underlying2
 a26:=Tryz.isAgg2
 z26:=Tryz.sizeOf2
 v26:=Tryz.zeroValue2
 t28:=Tryz.underlying187
 a28:=Tryz.isAgg187
 z28:=Tryz.sizeOf187
 v28:=Tryz.zeroValue187
 i26:=kf }
def Tryz.aaa:Go.Shelf.Ren:=⟨fun|5=>99|8=>177|7=>176|19=>264|20=>265|10=>255|11=>256|12=>257|13=>258|14=>259|15=>260|16=>261|17=>262|18=>263|30=>333|31=>334|32=>335|33=>336|34=>337|35=>269|40=>396|n=>n,fun|23=>88|25=>2|3=>3|32=>330|22=>88|0=>0|44=>329|46=>175|4=>4|36=>472|35=>471|41=>477|5=>5|9=>9|53=>566|57=>569|63=>626|64=>627|n=>n,fun|n=>n⟩
theorem Tryz.YG:Go.Proofs.SlLaysM.n5 Tryz.prog Tryz.aaa:={
 mixed:=kf
 f5:=⟨Tryz.f99.name,ee,zt Tryz.func99⟩
 f7:=⟨Tryz.f176.name,ee,zt Tryz.func176⟩
 f8:=zt Tryz.func177
 f10:=⟨Tryz.f255.name,ee,zt Tryz.func255⟩
 f11:=⟨Tryz.f256.name,ee,zt Tryz.func256⟩
 f12:=⟨Tryz.f257.name,ee,zt Tryz.func257⟩
 f13:=⟨Tryz.f258.name,ee,zt Tryz.func258⟩
 f14:=⟨Tryz.f259.name,ee,zt Tryz.func259⟩
 f15:=⟨Tryz.f260.name,ee,zt Tryz.func260⟩
 f16:=⟨Tryz.f261.name,ee,zt Tryz.func261⟩
 f17:=⟨Tryz.f262.name,ee,zt Tryz.func262⟩
 f18:=⟨Tryz.f263.name,ee,zt Tryz.func263⟩
 f19:=zt Tryz.func264
 f20:=zt Tryz.func265
 f30:=⟨Tryz.f333.name,ee,zt Tryz.func333⟩
 f31:=zt Tryz.func334
 f32:=zt Tryz.func335
 f33:=⟨Tryz.f336.name,ee,zt Tryz.func336⟩
 f34:=⟨Tryz.f337.name,ee,zt Tryz.func337⟩
 f35:=⟨Tryz.f269.name,ee,zt Tryz.func269⟩
 f40:=⟨Tryz.f396.name,ee,zt Tryz.func396⟩
 t0:=Tryz.underlying0
 a0:=Tryz.isAgg0
 z0:=Tryz.sizeOf0
 v0:=Tryz.zeroValue0
 t3:=Tryz.underlying3
 a3:=Tryz.isAgg3
 z3:=Tryz.sizeOf3
 v3:=Tryz.zeroValue3
 t4:=Tryz.underlying4
 a4:=Tryz.isAgg4
 z4:=Tryz.sizeOf4
 v4:=Tryz.zeroValue4
 t5:=Tryz.underlying5
 a5:=Tryz.isAgg5
 z5:=Tryz.sizeOf5
 v5:=Tryz.zeroValue5
 t9:=Tryz.underlying9
 a9:=Tryz.isAgg9
 z9:=Tryz.sizeOf9
 v9:=Tryz.zeroValue9
 t22:=Tryz.underlying88
 a22:=Tryz.isAgg88
 z22:=Tryz.sizeOf88
 v22:=Tryz.zeroValue88
 t23:=Tryz.underlying88
 a23:=Tryz.isAgg88
 z23:=Tryz.sizeOf88
 v23:=Tryz.zeroValue88
 t25:=Tryz.underlying2
 a25:=Tryz.isAgg2
 z25:=Tryz.sizeOf2
 v25:=Tryz.zeroValue2
 t32:=Tryz.underlying330
 a32:=Tryz.isAgg330
 z32:=Tryz.sizeOf330
 v32:=Tryz.zeroValue330
 t35:=Tryz.underlying471
 a35:=Tryz.isAgg471
 z35:=Tryz.sizeOf471
 v35:=Tryz.zeroValue471
 t36:=Tryz.underlying472
 a36:=Tryz.isAgg472
 z36:=Tryz.sizeOf472
 v36:=Tryz.zeroValue472
 t41:=Tryz.underlying477
 a41:=Tryz.isAgg477
 z41:=Tryz.sizeOf477
 v41:=Tryz.zeroValue477
 t44:=Tryz.underlying329
 a44:=Tryz.isAgg329
 z44:=Tryz.sizeOf329
 v44:=Tryz.zeroValue329
 t46:=Tryz.underlying175
 a46:=Tryz.isAgg175
 z46:=Tryz.sizeOf175
 v46:=Tryz.zeroValue175
 t53:=Tryz.underlying566
 a53:=Tryz.isAgg566
 z53:=Tryz.sizeOf566
 v53:=Tryz.zeroValue566
 t57:=Tryz.underlying569
 a57:=Tryz.isAgg569
 z57:=Tryz.sizeOf569
 v57:=Tryz.zeroValue569
 t63:=Tryz.underlying626
 a63:=Tryz.isAgg626
 z63:=Tryz.sizeOf626
 v63:=Tryz.zeroValue626
 t64:=Tryz.underlying627
 a64:=Tryz.isAgg627
 z64:=Tryz.sizeOf627
 v64:=Tryz.zeroValue627 }
def Tryz.X6:Go.Shelf.Ren:=⟨fun|5=>134|7=>185|n=>n,fun|23=>298|25=>2|3=>169|4=>4|20=>20|n=>n,fun|n=>n⟩
theorem Tryz.ahv:Go.Proofs.SlLaysW.n5 Tryz.prog Tryz.X6:={
 mixed:=kf
 f5:=⟨Tryz.f134.name,ee,zt Tryz.func134⟩
 f7:=zt Tryz.func185
 t4:=Tryz.underlying4
 a4:=Tryz.isAgg4
 z4:=Tryz.sizeOf4
 v4:=Tryz.zeroValue4
 t20:=Tryz.underlying20
 a20:=Tryz.isAgg20
 z20:=Tryz.sizeOf20
 v20:=Tryz.zeroValue20
 t23:=Tryz.underlying298
 a23:=Tryz.isAgg298
 z23:=Tryz.sizeOf298
 v23:=Tryz.zeroValue298 }
def Tryz.Xm:Go.Shelf.Ren:=⟨fun|5=>295|7=>185|n=>n,fun|23=>292|25=>2|3=>260|4=>4|20=>20|n=>n,fun|n=>n⟩
theorem Tryz.afs:Go.Proofs.SlLaysW.n5 Tryz.prog Tryz.Xm:={
 mixed:=kf
 f5:=⟨Tryz.f295.name,ee,zt Tryz.func295⟩
 f7:=zt Tryz.func185
 t4:=Tryz.underlying4
 a4:=Tryz.isAgg4
 z4:=Tryz.sizeOf4
 v4:=Tryz.zeroValue4
 t20:=Tryz.underlying20
 a20:=Tryz.isAgg20
 z20:=Tryz.sizeOf20
 v20:=Tryz.zeroValue20
 t23:=Tryz.underlying292
 a23:=Tryz.isAgg292
 z23:=Tryz.sizeOf292
 v23:=Tryz.zeroValue292 }
def Tryz.Xl:Go.Shelf.Ren:=⟨fun|5=>227|7=>185|n=>n,fun|23=>426|25=>2|3=>69|4=>4|20=>20|n=>n,fun|n=>n⟩
theorem Tryz.afr:Go.Proofs.SlLaysW.n5 Tryz.prog Tryz.Xl:={
 mixed:=kf
 f5:=⟨Tryz.f227.name,ee,zt Tryz.func227⟩
 f7:=zt Tryz.func185
 t4:=Tryz.underlying4
 a4:=Tryz.isAgg4
 z4:=Tryz.sizeOf4
 v4:=Tryz.zeroValue4
 t20:=Tryz.underlying20
 a20:=Tryz.isAgg20
 z20:=Tryz.sizeOf20
 v20:=Tryz.zeroValue20
 t23:=Tryz.underlying426
 a23:=Tryz.isAgg426
 z23:=Tryz.sizeOf426
 v23:=Tryz.zeroValue426 }
def Tryz.aap:Go.Shelf.Ren:=⟨fun|14=>347|15=>401|n=>n,fun|26=>42|22=>63|3=>3|4=>4|0=>0|9=>9|20=>20|5=>5|n=>n,fun|n=>n⟩
theorem Tryz.ajd:Go.Proofs.SlLaysJ.n14 Tryz.prog Tryz.aap:={
 mixed:=kf
 f14:=zt Tryz.func347
 f15:=zt Tryz.func401
 t0:=Tryz.underlying0
 a0:=Tryz.isAgg0
 z0:=Tryz.sizeOf0
 v0:=Tryz.zeroValue0
 t3:=Tryz.underlying3
 a3:=Tryz.isAgg3
 z3:=Tryz.sizeOf3
 v3:=Tryz.zeroValue3
 t4:=Tryz.underlying4
 a4:=Tryz.isAgg4
 z4:=Tryz.sizeOf4
 v4:=Tryz.zeroValue4
 t9:=Tryz.underlying9
 a9:=Tryz.isAgg9
 z9:=Tryz.sizeOf9
 v9:=Tryz.zeroValue9
 t20:=Tryz.underlying20
 a20:=Tryz.isAgg20
 z20:=Tryz.sizeOf20
 v20:=Tryz.zeroValue20
 t22:=Tryz.underlying63
 a22:=Tryz.isAgg63
 z22:=Tryz.sizeOf63
 v22:=Tryz.zeroValue63
 t26:=Tryz.underlying42
 a26:=Tryz.isAgg42
 z26:=Tryz.sizeOf42
 v26:=Tryz.zeroValue42
 t5:=Tryz.underlying5
 z5:=Tryz.sizeOf5
 i5:=kf }
open Go.Shelf
def Tryz.XC:Go.Shelf.Ren:=⟨fun|6=>230|15=>177|14=>298|28=>264|29=>265|20=>372|21=>373|22=>374|23=>375|24=>376|25=>377|26=>378|27=>379|46=>419|47=>334|48=>335|49=>420|50=>421|57=>452|n=>n,fun|22=>321|24=>174|25=>326|3=>3|39=>330|0=>0|53=>329|55=>175|4=>4|46=>472|45=>471|50=>477|5=>5|9=>9|66=>566|70=>569|76=>626|77=>627|n=>n,fun|n=>n⟩
theorem Tryz.agO:Go.Proofs.SlLaysF0.n6 Tryz.prog Tryz.XC:={
 mixed:=kf
 f6:=⟨Tryz.f230.name,ee,zt Tryz.func230⟩
 f14:=⟨Tryz.f298.name,ee,zt Tryz.func298⟩
 f15:=zt Tryz.func177
 f20:=⟨Tryz.f372.name,ee,zt Tryz.func372⟩
 f21:=⟨Tryz.f373.name,ee,zt Tryz.func373⟩
 f22:=⟨Tryz.f374.name,ee,zt Tryz.func374⟩
 f23:=⟨Tryz.f375.name,ee,zt Tryz.func375⟩
 f24:=⟨Tryz.f376.name,ee,zt Tryz.func376⟩
 f25:=⟨Tryz.f377.name,ee,zt Tryz.func377⟩
 f26:=⟨Tryz.f378.name,ee,zt Tryz.func378⟩
 f27:=⟨Tryz.f379.name,ee,zt Tryz.func379⟩
 f28:=zt Tryz.func264
 f29:=zt Tryz.func265
 f46:=⟨Tryz.f419.name,ee,zt Tryz.func419⟩
 f47:=zt Tryz.func334
 f48:=zt Tryz.func335
 f49:=⟨Tryz.f420.name,ee,zt Tryz.func420⟩
 f50:=⟨Tryz.f421.name,ee,zt Tryz.func421⟩
 f57:=⟨Tryz.f452.name,ee,zt Tryz.func452⟩
 t0:=Tryz.underlying0
 a0:=Tryz.isAgg0
 z0:=Tryz.sizeOf0
 v0:=Tryz.zeroValue0
 t3:=Tryz.underlying3
 a3:=Tryz.isAgg3
 z3:=Tryz.sizeOf3
 v3:=Tryz.zeroValue3
 t4:=Tryz.underlying4
 a4:=Tryz.isAgg4
 z4:=Tryz.sizeOf4
 v4:=Tryz.zeroValue4
 t5:=Tryz.underlying5
 a5:=Tryz.isAgg5
 z5:=Tryz.sizeOf5
 v5:=Tryz.zeroValue5
 t9:=Tryz.underlying9
 a9:=Tryz.isAgg9
 z9:=Tryz.sizeOf9
 v9:=Tryz.zeroValue9
 t22:=Tryz.underlying321
 a22:=Tryz.isAgg321
 z22:=Tryz.sizeOf321
 v22:=Tryz.zeroValue321
 t25:=Tryz.underlying326
 a25:=Tryz.isAgg326
 z25:=Tryz.sizeOf326
 v25:=Tryz.zeroValue326
 t39:=Tryz.underlying330
 a39:=Tryz.isAgg330
 z39:=Tryz.sizeOf330
 v39:=Tryz.zeroValue330
 t45:=Tryz.underlying471
 a45:=Tryz.isAgg471
 z45:=Tryz.sizeOf471
 v45:=Tryz.zeroValue471
 t46:=Tryz.underlying472
 a46:=Tryz.isAgg472
 z46:=Tryz.sizeOf472
 v46:=Tryz.zeroValue472
 t50:=Tryz.underlying477
 a50:=Tryz.isAgg477
 z50:=Tryz.sizeOf477
 v50:=Tryz.zeroValue477
 t53:=Tryz.underlying329
 a53:=Tryz.isAgg329
 z53:=Tryz.sizeOf329
 v53:=Tryz.zeroValue329
 t55:=Tryz.underlying175
 a55:=Tryz.isAgg175
 z55:=Tryz.sizeOf175
 v55:=Tryz.zeroValue175
 t66:=Tryz.underlying566
 a66:=Tryz.isAgg566
 z66:=Tryz.sizeOf566
 v66:=Tryz.zeroValue566
 t70:=Tryz.underlying569
 a70:=Tryz.isAgg569
 z70:=Tryz.sizeOf569
 v70:=Tryz.zeroValue569
 t76:=Tryz.underlying626
 a76:=Tryz.isAgg626
 z76:=Tryz.sizeOf626
 v76:=Tryz.zeroValue626
 t77:=Tryz.underlying627
 a77:=Tryz.isAgg627
 z77:=Tryz.sizeOf627
 v77:=Tryz.zeroValue627 }
def Tryz.Xk:Go.Shelf.Ren:=⟨fun|5=>147|7=>185|n=>n,fun|23=>316|25=>174|3=>181|4=>4|20=>20|n=>n,fun|n=>n⟩
theorem Tryz.afq:Go.Proofs.SlLaysW.n5 Tryz.prog Tryz.Xk:={
 mixed:=kf
 f5:=⟨Tryz.f147.name,ee,zt Tryz.func147⟩
 f7:=zt Tryz.func185
 t4:=Tryz.underlying4
 a4:=Tryz.isAgg4
 z4:=Tryz.sizeOf4
 v4:=Tryz.zeroValue4
 t20:=Tryz.underlying20
 a20:=Tryz.isAgg20
 z20:=Tryz.sizeOf20
 v20:=Tryz.zeroValue20
 t23:=Tryz.underlying316
 a23:=Tryz.isAgg316
 z23:=Tryz.sizeOf316
 v23:=Tryz.zeroValue316 }
def Tryz.O_:Go.Shelf.Ren:=⟨fun|156=>444|165=>466|166=>467|169=>468|240=>478|241=>479|276=>482|277=>401|n=>n,fun|31=>290|9=>9|3=>3|4=>4|0=>0|20=>20|72=>682|76=>685|70=>680|37=>63|75=>684|127=>692|164=>699|5=>5|80=>636|n=>n,fun|n=>n⟩
theorem Tryz.aje:Go.Proofs.Lays.n156 Tryz.prog Tryz.O_:={
 mixed:=kf
 f156:=zt Tryz.func444
 f165:=zt Tryz.func466
 f166:=zt Tryz.func467
 f169:=zt Tryz.func468
 f240:=zt Tryz.func478
 f241:=zt Tryz.func479
 f276:=zt Tryz.func482
 f277:=zt Tryz.func401
 t0:=Tryz.underlying0
 a0:=Tryz.isAgg0
 z0:=Tryz.sizeOf0
 v0:=Tryz.zeroValue0
 t3:=Tryz.underlying3
 a3:=Tryz.isAgg3
 z3:=Tryz.sizeOf3
 v3:=Tryz.zeroValue3
 t4:=Tryz.underlying4
 a4:=Tryz.isAgg4
 z4:=Tryz.sizeOf4
 v4:=Tryz.zeroValue4
 t9:=Tryz.underlying9
 a9:=Tryz.isAgg9
 z9:=Tryz.sizeOf9
 v9:=Tryz.zeroValue9
 t20:=Tryz.underlying20
 a20:=Tryz.isAgg20
 z20:=Tryz.sizeOf20
 v20:=Tryz.zeroValue20
 t31:=Tryz.underlying290
 a31:=Tryz.isAgg290
 z31:=Tryz.sizeOf290
 v31:=Tryz.zeroValue290
 t37:=Tryz.underlying63
 a37:=Tryz.isAgg63
 z37:=Tryz.sizeOf63
 v37:=Tryz.zeroValue63
 t70:=Tryz.underlying680
 a70:=Tryz.isAgg680
 z70:=Tryz.sizeOf680
 v70:=Tryz.zeroValue680
 t72:=Tryz.underlying682
 a72:=Tryz.isAgg682
 z72:=Tryz.sizeOf682
 v72:=Tryz.zeroValue682
 t75:=Tryz.underlying684
 a75:=Tryz.isAgg684
 z75:=Tryz.sizeOf684
 v75:=Tryz.zeroValue684
 t76:=Tryz.underlying685
 a76:=Tryz.isAgg685
 z76:=Tryz.sizeOf685
 v76:=Tryz.zeroValue685
 t127:=Tryz.underlying692
 a127:=Tryz.isAgg692
 z127:=Tryz.sizeOf692
 v127:=Tryz.zeroValue692
 t164:=Tryz.underlying699
 a164:=Tryz.isAgg699
 z164:=Tryz.sizeOf699
 v164:=Tryz.zeroValue699 }
open Go.Shelf
def Tryz.Z_:Go.Shelf.Ren:=⟨fun|5=>348|8=>177|7=>402|19=>264|20=>265|10=>431|11=>432|12=>433|13=>434|14=>435|15=>436|16=>437|17=>438|18=>439|30=>458|31=>334|32=>335|33=>459|34=>460|35=>461|40=>476|n=>n,fun|23=>501|25=>3|3=>3|32=>330|22=>501|0=>0|44=>329|46=>175|4=>4|36=>472|35=>471|41=>477|5=>5|9=>9|53=>566|57=>569|63=>626|64=>627|n=>n,fun|n=>n⟩
theorem Tryz.i_:Go.Proofs.SlLaysM.n5 Tryz.prog Tryz.Z_:={
 mixed:=kf
 f5:=⟨Tryz.f348.name,ee,zt Tryz.func348⟩
 f7:=⟨Tryz.f402.name,ee,zt Tryz.func402⟩
 f8:=zt Tryz.func177
 f10:=⟨Tryz.f431.name,ee,zt Tryz.func431⟩
 f11:=⟨Tryz.f432.name,ee,zt Tryz.func432⟩
 f12:=⟨Tryz.f433.name,ee,zt Tryz.func433⟩
 f13:=⟨Tryz.f434.name,ee,zt Tryz.func434⟩
 f14:=⟨Tryz.f435.name,ee,zt Tryz.func435⟩
 f15:=⟨Tryz.f436.name,ee,zt Tryz.func436⟩
 f16:=⟨Tryz.f437.name,ee,zt Tryz.func437⟩
 f17:=⟨Tryz.f438.name,ee,zt Tryz.func438⟩
 f18:=⟨Tryz.f439.name,ee,zt Tryz.func439⟩
 f19:=zt Tryz.func264
 f20:=zt Tryz.func265
 f30:=⟨Tryz.f458.name,ee,zt Tryz.func458⟩
 f31:=zt Tryz.func334
 f32:=zt Tryz.func335
 f33:=⟨Tryz.f459.name,ee,zt Tryz.func459⟩
 f34:=⟨Tryz.f460.name,ee,zt Tryz.func460⟩
 f35:=⟨Tryz.f461.name,ee,zt Tryz.func461⟩
 f40:=⟨Tryz.f476.name,ee,zt Tryz.func476⟩
 t0:=Tryz.underlying0
 a0:=Tryz.isAgg0
 z0:=Tryz.sizeOf0
 v0:=Tryz.zeroValue0
 t3:=Tryz.underlying3
 a3:=Tryz.isAgg3
 z3:=Tryz.sizeOf3
 v3:=Tryz.zeroValue3
 t4:=Tryz.underlying4
 a4:=Tryz.isAgg4
 z4:=Tryz.sizeOf4
 v4:=Tryz.zeroValue4
 t5:=Tryz.underlying5
 a5:=Tryz.isAgg5
 z5:=Tryz.sizeOf5
 v5:=Tryz.zeroValue5
 t9:=Tryz.underlying9
 a9:=Tryz.isAgg9
 z9:=Tryz.sizeOf9
 v9:=Tryz.zeroValue9
 t22:=Tryz.underlying501
 a22:=Tryz.isAgg501
 z22:=Tryz.sizeOf501
 v22:=Tryz.zeroValue501
 t23:=Tryz.underlying501
 a23:=Tryz.isAgg501
 z23:=Tryz.sizeOf501
 v23:=Tryz.zeroValue501
 t25:=Tryz.underlying3
 a25:=Tryz.isAgg3
 z25:=Tryz.sizeOf3
 v25:=Tryz.zeroValue3
 t32:=Tryz.underlying330
 a32:=Tryz.isAgg330
 z32:=Tryz.sizeOf330
 v32:=Tryz.zeroValue330
 t35:=Tryz.underlying471
 a35:=Tryz.isAgg471
 z35:=Tryz.sizeOf471
 v35:=Tryz.zeroValue471
 t36:=Tryz.underlying472
 a36:=Tryz.isAgg472
 z36:=Tryz.sizeOf472
 v36:=Tryz.zeroValue472
 t41:=Tryz.underlying477
 a41:=Tryz.isAgg477
 z41:=Tryz.sizeOf477
 v41:=Tryz.zeroValue477
 t44:=Tryz.underlying329
 a44:=Tryz.isAgg329
 z44:=Tryz.sizeOf329
 v44:=Tryz.zeroValue329
 t46:=Tryz.underlying175
 a46:=Tryz.isAgg175
 z46:=Tryz.sizeOf175
 v46:=Tryz.zeroValue175
 t53:=Tryz.underlying566
 a53:=Tryz.isAgg566
 z53:=Tryz.sizeOf566
 v53:=Tryz.zeroValue566
 t57:=Tryz.underlying569
 a57:=Tryz.isAgg569
 z57:=Tryz.sizeOf569
 v57:=Tryz.zeroValue569
 t63:=Tryz.underlying626
 a63:=Tryz.isAgg626
 z63:=Tryz.sizeOf626
 v63:=Tryz.zeroValue626
 t64:=Tryz.underlying627
 a64:=Tryz.isAgg627
 z64:=Tryz.sizeOf627
 v64:=Tryz.zeroValue627 }
open Go.Shelf
def Tryz.XD:Go.Shelf.Ren:=⟨fun|6=>187|15=>177|14=>268|28=>264|29=>265|20=>338|21=>339|22=>340|23=>341|24=>342|25=>343|26=>344|27=>345|46=>397|47=>334|48=>335|49=>398|50=>399|57=>429|n=>n,fun|22=>241|24=>50|25=>246|3=>3|39=>330|0=>0|53=>329|55=>175|4=>4|46=>472|45=>471|50=>477|5=>5|9=>9|66=>566|70=>569|76=>626|77=>627|n=>n,fun|n=>n⟩
theorem Tryz.agP:Go.Proofs.SlLaysF0.n6 Tryz.prog Tryz.XD:={
 mixed:=kf
 f6:=⟨Tryz.f187.name,ee,zt Tryz.func187⟩
 f14:=⟨Tryz.f268.name,ee,zt Tryz.func268⟩
 f15:=zt Tryz.func177
 f20:=⟨Tryz.f338.name,ee,zt Tryz.func338⟩
 f21:=⟨Tryz.f339.name,ee,zt Tryz.func339⟩
 f22:=⟨Tryz.f340.name,ee,zt Tryz.func340⟩
 f23:=⟨Tryz.f341.name,ee,zt Tryz.func341⟩
 f24:=⟨Tryz.f342.name,ee,zt Tryz.func342⟩
 f25:=⟨Tryz.f343.name,ee,zt Tryz.func343⟩
 f26:=⟨Tryz.f344.name,ee,zt Tryz.func344⟩
 f27:=⟨Tryz.f345.name,ee,zt Tryz.func345⟩
 f28:=zt Tryz.func264
 f29:=zt Tryz.func265
 f46:=⟨Tryz.f397.name,ee,zt Tryz.func397⟩
 f47:=zt Tryz.func334
 f48:=zt Tryz.func335
 f49:=⟨Tryz.f398.name,ee,zt Tryz.func398⟩
 f50:=⟨Tryz.f399.name,ee,zt Tryz.func399⟩
 f57:=⟨Tryz.f429.name,ee,zt Tryz.func429⟩
 t0:=Tryz.underlying0
 a0:=Tryz.isAgg0
 z0:=Tryz.sizeOf0
 v0:=Tryz.zeroValue0
 t3:=Tryz.underlying3
 a3:=Tryz.isAgg3
 z3:=Tryz.sizeOf3
 v3:=Tryz.zeroValue3
 t4:=Tryz.underlying4
 a4:=Tryz.isAgg4
 z4:=Tryz.sizeOf4
 v4:=Tryz.zeroValue4
 t5:=Tryz.underlying5
 a5:=Tryz.isAgg5
 z5:=Tryz.sizeOf5
 v5:=Tryz.zeroValue5
 t9:=Tryz.underlying9
 a9:=Tryz.isAgg9
 z9:=Tryz.sizeOf9
 v9:=Tryz.zeroValue9
 t22:=Tryz.underlying241
 a22:=Tryz.isAgg241
 z22:=Tryz.sizeOf241
 v22:=Tryz.zeroValue241
 t25:=Tryz.underlying246
 a25:=Tryz.isAgg246
 z25:=Tryz.sizeOf246
 v25:=Tryz.zeroValue246
 t39:=Tryz.underlying330
 a39:=Tryz.isAgg330
 z39:=Tryz.sizeOf330
 v39:=Tryz.zeroValue330
 t45:=Tryz.underlying471
 a45:=Tryz.isAgg471
 z45:=Tryz.sizeOf471
 v45:=Tryz.zeroValue471
 t46:=Tryz.underlying472
 a46:=Tryz.isAgg472
 z46:=Tryz.sizeOf472
 v46:=Tryz.zeroValue472
 t50:=Tryz.underlying477
 a50:=Tryz.isAgg477
 z50:=Tryz.sizeOf477
 v50:=Tryz.zeroValue477
 t53:=Tryz.underlying329
 a53:=Tryz.isAgg329
 z53:=Tryz.sizeOf329
 v53:=Tryz.zeroValue329
 t55:=Tryz.underlying175
 a55:=Tryz.isAgg175
 z55:=Tryz.sizeOf175
 v55:=Tryz.zeroValue175
 t66:=Tryz.underlying566
 a66:=Tryz.isAgg566
 z66:=Tryz.sizeOf566
 v66:=Tryz.zeroValue566
 t70:=Tryz.underlying569
 a70:=Tryz.isAgg569
 z70:=Tryz.sizeOf569
 v70:=Tryz.zeroValue569
 t76:=Tryz.underlying626
 a76:=Tryz.isAgg626
 z76:=Tryz.sizeOf626
 v76:=Tryz.zeroValue626
 t77:=Tryz.underlying627
 a77:=Tryz.isAgg627
 z77:=Tryz.sizeOf627
 v77:=Tryz.zeroValue627 }
def Tryz.Xj:Go.Shelf.Ren:=⟨fun|5=>106|7=>185|n=>n,fun|23=>237|25=>50|3=>52|4=>4|20=>20|n=>n,fun|n=>n⟩
theorem Tryz.afp:Go.Proofs.SlLaysW.n5 Tryz.prog Tryz.Xj:={
 mixed:=kf
 f5:=⟨Tryz.f106.name,ee,zt Tryz.func106⟩
 f7:=zt Tryz.func185
 t4:=Tryz.underlying4
 a4:=Tryz.isAgg4
 z4:=Tryz.sizeOf4
 v4:=Tryz.zeroValue4
 t20:=Tryz.underlying20
 a20:=Tryz.isAgg20
 z20:=Tryz.sizeOf20
 v20:=Tryz.zeroValue20
 t23:=Tryz.underlying237
 a23:=Tryz.isAgg237
 z23:=Tryz.sizeOf237
 v23:=Tryz.zeroValue237 }
def Tryz.XV:Go.Shelf.Ren:=⟨fun|7=>83|10=>154|n=>n,fun|23=>151|26=>2|3=>92|28=>187|0=>0|27=>186|33=>102|4=>4|n=>n,fun|n=>n⟩
theorem Tryz.ack:Go.Proofs.SlLaysZI.n7 Tryz.prog Tryz.XV:={
 mixed:=kf
 f7:=⟨Tryz.f83.name,ee,zt Tryz.func83⟩
 f10:=⟨Tryz.f154.name,ee,zt Tryz.func154⟩
 t0:=Tryz.underlying0
 a0:=Tryz.isAgg0
 z0:=Tryz.sizeOf0
 v0:=Tryz.zeroValue0
 t4:=Tryz.underlying4
 a4:=Tryz.isAgg4
 z4:=Tryz.sizeOf4
 v4:=Tryz.zeroValue4
 t23:=Tryz.underlying151
 a23:=Tryz.isAgg151
 z23:=Tryz.sizeOf151
 v23:=Tryz.zeroValue151
 t26:=Tryz.underlying2
 a26:=Tryz.isAgg2
 z26:=Tryz.sizeOf2
 v26:=Tryz.zeroValue2
 t27:=Tryz.underlying186
 a27:=Tryz.isAgg186
 z27:=Tryz.sizeOf186
 v27:=Tryz.zeroValue186
 t28:=Tryz.underlying187
 a28:=Tryz.isAgg187
 z28:=Tryz.sizeOf187
 v28:=Tryz.zeroValue187
 t33:=Tryz.underlying102
 a33:=Tryz.isAgg102
 z33:=Tryz.sizeOf102
 v33:=Tryz.zeroValue102 }
open  Go.RowKit Go.Maps Go.Sort Go.Shelf
theorem mF{f:FuncId}{args:Array Value}{w:World}{Q:Ending->World->Prop}(h:Calls P f args w Q)(b:∀e a,Q e a->∃v,e=.returned v/\bZ w a/\K v a.heap):Calls P f args w (Fin w K):=h.mono λe a i=>by obtain⟨v,rfl,c,d⟩:=b e a i;exact⟨c,d⟩
theorem agN(m:Nat):AnyZI.SortsIn Tryz.prog Tryz.Hl Fence.wide m:=⟨λE8 off cap d W c a b=>callsIn_wide.2 (AnyM.slices_Sort_int Tryz.YG E8 off cap d W c a b),λp cap W=>callsIn_wide.2 (AnyM.slices_Sort_int_none Tryz.YG p cap W)⟩
theorem xy(a:Go.Proofs.SlLaysZI.n7 Tryz.prog A){mb:Option Nat}(k:K (.func (.func (A.f 10)) #[] #[.pointer (some ⟨H.size,0,none⟩)]) (H.push (.cells #[.map mb] (A.t 23)))) : CF (A.f 7) #[.map mb] H K:=by refine .mk λw b=>?_;subst b;have h:=(callsIn_wide (n:=5)).1 (AnyZI.keys_in a Fence.wide 5 trivial rfl mb w);refine mF h ?_;rintro e c ⟨rfl,rfl⟩;exact⟨_,rfl,⟨rfl,rfl,rfl⟩,k⟩
theorem xz{ρ:Go.Shelf.Ren}(C:Go.Proofs.SlLaysZI.n7 Tryz.prog ρ)(e2:ρ.t 26=2)(en:∀args w,(callFunc (ρ.f 10) args).run Tryz.prog w=.ok (.enter (ρ.f 10) args) w){α:Type}{d_:α->Value}{m:List (Int×α)}(h:aA H F)(i:Nat)(U:aX i F=mapA (Value.int .i64) d_ c m)(S:∀x∈aJ m,aG x)(R:m.length<=17592186044416) (k:∀a r E,aA E (ay 2 1 a m.length r ((i_ (aJ m)).map (Value.int .i64))::F)->eB H E->K (.slice a m.length r) E) : CF 82 #[.func (.func (ρ.f 10)) #[] #[.pointer (some ⟨H.size,0,none⟩)]] (H.push (.cells #[.map (some c)] b)) K:=by
 refine .mk λw L=>?_;have g:eB H w.heap:=by rw[L];exact eB.push _ _
 have G:aA w.heap F:=h.grow g;have M:=G.FP i;rw[U]at M;let⟨B,s,T,D⟩:=Qk (k:=2) Tryz.underlying2 M S (by grind [maxLen]);have d:w.cell? ⟨H.size,0,none⟩=some (.map (some c)):=by simp[World.cell?,L]
 have A:SeqGives Fence.wide 2 Tryz.prog (ρ.f 10) #[.pointer (some ⟨H.size,0,none⟩)] encZ (λu=>u.Perm (intKeys B)) (Maps.size B) w:=AnyZI.keys_gives (ρ:=ρ) { C with } Fence.wide _ trivial rfl ez H.size c m.length B w (by rw[L];simp) d (by rw[e2];exact s);have P:=AnyZI.sorted_in Tryz.aeh Fence.wide 5 trivial trivial trivial trivial rfl ez (agN _) (enters_of Tryz.func99 kf rfl) (ρ.f 10) #[.pointer (some ⟨H.size,0,none⟩)] trivial en _ _ (by unfold maxLen;omega) ez w A;change CallsIn _ _ Tryz.prog 82 _ _ _ at P;refine mF ((callsIn_wide (n:=5)).1 P) ?_;rintro e W ⟨v,u,rfl,V,j,J,hb⟩;obtain⟨a,r,rfl,N⟩:=G.ag4 hb j;have O:u.Perm (aJ m):=V.trans T;have I:u.length=m.length:=by rw[O.length_eq];grind
 have Q:u.mergeSort (λx y=>decide (x<=y))=i_ (aJ m):=I4 O;rw[Q,I]at N;refine⟨_,rfl,Av hb,?_⟩;rw[I];exact k a r _ N (g.trans (xe hb))
theorem uX(b:Go.Proofs.SlLaysW.n5 Tryz.prog A){κ α:Type}{ew:κ->Value}{d_:α->Value}{m:List (κ×α)}(h:aA H F)(i:Nat)(v:aX i F=mapA ew d_ c m) (k:∀r,aA r (mapA ew d_ H.size m::F)->eB H r->K (.map (some H.size)) r) : CF (A.f 5) #[.map (some c)] H K:=by refine .mk λw u=>?_;subst u;have j:=h.FP i;rw[v]at j;let⟨n,d,a,B,t,x,s⟩:=oI j;have y:=AnyW.maps_Clone b c d a w s.get;refine mF y ?_;rintro e C ⟨rfl,rfl⟩;refine⟨_,rfl,⟨rfl,rfl,rfl⟩,k _ ?_ (eB.push _ _)⟩;exact (h.push (.map d a)).mono λp ρ=>⟨n,d,a,B,t,x,ρ⟩
section
variable {H:aC}{mb:Option Nat}{K:KE}{α:Type}{d_:α->Value}{L:List aF}{r:Nat}{m:List (Int×α)}
theorem RV(k:K (.func (.func 224) #[] #[.pointer (some ⟨H.size,0,none⟩)]) (H.push (.cells #[.map mb] 298))):CF 135 #[.map mb] H K:=xy Tryz.agp k
theorem RY(h:aA H L)(i:Nat)(f:aX i L=mapA (Value.int .i64) d_ r m)(e:∀x∈aJ m,aG x)(b:m.length<=17592186044416) (k:∀a c d,aA d (ay 2 1 a m.length c ((i_ (aJ m)).map (Value.int .i64))::L)->eB H d->K (.slice a m.length c) d) : CF 82 #[.func (.func 224) #[] #[.pointer (some ⟨H.size,0,none⟩)]] (H.push (.cells #[.map (some r)] 298)) K:=xz Tryz.agp rfl (enters_of Tryz.func224 kf rfl) h i f e b k
theorem Jr(h:aA H L)(i:Nat)(b:aX i L=mapA (Value.int .i64) d_ r m)(k:∀a,aA a (mapA (Value.int .i64) d_ H.size m::L)->eB H a->K (.map (some H.size)) a):CF 134 #[.map (some r)] H K:=uX Tryz.ahv h i b k
theorem RZ(k:K (.func (.func 296) #[] #[.pointer (some ⟨H.size,0,none⟩)]) (H.push (.cells #[.map mb] 426))):CF 226 #[.map mb] H K:=xy Tryz.acn k
theorem Sa(h:aA H L)(i:Nat)(f:aX i L=mapA (Value.int .i64) d_ r m)(e:∀x∈aJ m,aG x)(b:m.length<=17592186044416) (k:∀a c d,aA d (ay 2 1 a m.length c ((i_ (aJ m)).map (Value.int .i64))::L)->eB H d->K (.slice a m.length c) d) : CF 82 #[.func (.func 296) #[] #[.pointer (some ⟨H.size,0,none⟩)]] (H.push (.cells #[.map (some r)] 426)) K:=xz Tryz.acn rfl (enters_of Tryz.func296 kf rfl) h i f e b k
theorem Sb(h:aA H L)(i:Nat)(b:aX i L=mapA (Value.int .i64) d_ r m)(k:∀a,aA a (mapA (Value.int .i64) d_ H.size m::L)->eB H a->K (.map (some H.size)) a):CF 227 #[.map (some r)] H K:=uX Tryz.afr h i b k
theorem Sc(k:K (.func (.func 471) #[] #[.pointer (some ⟨H.size,0,none⟩)]) (H.push (.cells #[.map mb] 292))):CF 451 #[.map mb] H K:=xy Tryz.acm k
theorem Sd(h:aA H L)(i:Nat)(f:aX i L=mapA (Value.int .i64) d_ r m)(e:∀x∈aJ m,aG x)(b:m.length<=17592186044416) (k:∀a c d,aA d (ay 2 1 a m.length c ((i_ (aJ m)).map (Value.int .i64))::L)->eB H d->K (.slice a m.length c) d) : CF 82 #[.func (.func 471) #[] #[.pointer (some ⟨H.size,0,none⟩)]] (H.push (.cells #[.map (some r)] 292)) K:=xz Tryz.acm rfl (enters_of Tryz.func471 kf rfl) h i f e b k
theorem Js(h:aA H L)(i:Nat)(b:aX i L=mapA (Value.int .i64) d_ r m)(k:∀a,aA a (mapA (Value.int .i64) d_ H.size m::L)->eB H a->K (.map (some H.size)) a):CF 295 #[.map (some r)] H K:=uX Tryz.afs h i b k
end
theorem Jt(pre cs post:Xa)(ys:List Int)(a:ys.length=cs.length) : putCells (Value.int .i64) pre.length ys.toArray (pre++cs++post).toArray=(pre++ys.map (Value.int .i64)++post).toArray:=by apply Array.ext';apply q2b;grind [putCells]
theorem Se{xs:List Int}(h:aA H F)(i:Nat)(P:aX i F=ay 2 1 a xs.length c (xs.map (Value.int .i64)))(t:xs.length<4611686018427387904) (k:∀C,aA C (put i (ay 2 1 a xs.length c ((i_ xs).map (Value.int .i64))) F)->K (.tuple #[]) C) : CF 99 #[.slice a xs.length c] H K:=by
 refine .mk λw M=>?_;subst M;have A:=h.FP i;rw[P]at A;obtain⟨Q,⟨rfl,G,rfl,f⟩|⟨b,pre,post,y,fr,rfl,x,s,d,f⟩⟩:=kw A;.have J:xs=[]:=q2k.1 G;subst J;refine mF (AnyM.slices_Sort_int_none Tryz.YG none 0 w) ?_;rintro e N ⟨rfl,rfl⟩;refine⟨_,rfl,⟨rfl,rfl,rfl⟩,k _ (aA.back ?_)⟩;rw[show (i_ ([]:List Int))=[] from xd List.Pairwise.nil];exact ry f
 have hb:=aR.get f;have v:b<w.heap.size:=aR.lt f;have L:Holds (Value.int .i64) w b pre.length xs.toArray:=by
  intro j D;have I:j<xs.length:=by grind
  refine⟨?_,?_⟩;case refine_2=>have:=d (pre.length+j) ez ez;grind [World.frozen?]
  simp only[World.cell?,hb,Option.isSome_none,q2y,if_false,List.getElem?_toArray];grind
 refine mF (AnyM.slices_Sort_int Tryz.YG b pre.length c xs w L v t) ?_;rintro e N ⟨rfl,n,os,rfl⟩;refine⟨_,rfl,⟨rfl,rfl,rfl⟩,k _ (aA.back ?_)⟩;have hs:(i_ xs).length=xs.length:=tg xs;have u:aR (w.heap.modify b (onCells (putCells (Value.int .i64) pre.length (i_ xs).toArray))) (pt b (.cells (pre++(i_ xs).map (Value.int .i64)++post).toArray y fr)*star (del i F)):=by
  refine aR.CS f ?_ λj D=>?_;.rw [Array.getElem?_modify,c_ rfl,hb];grind [onCells,Jt]
  grind
 have E:aR (w.heap.modify b (onCells (putCells (Value.int .i64) pre.length (i_ xs).toArray))++os.toList.toArray) (pt b (.cells (pre++(i_ xs).map (Value.int .i64)++post).toArray y fr)*star (del i F)):=u.grow λj D=>by grind
 have m:=E.frame (B:=ay 2 1 (some ⟨b,pre.length,none⟩) xs.length c ((i_ xs).map (Value.int .i64))) λp O=>⟨by simp[hs],.inr ⟨b,pre,post,y,fr,rfl,x,s,λ_=>d,O⟩⟩;simpa[grow,putRow,mapBlock,Sort.ahead,i_] using m
theorem XF:Fk Tryz.prog 63 5 1 1:=fU kf
theorem tC(h:aA H F)(i:∀H,aA H F->aQ H a (t.map U8))(v:t.length<=1099511627776) (k:∀f d e,aA e (ay 5 1 f t.length d (t.map U8)::F)->K (.slice f t.length d) e):CF 48 #[.slice a t.length c] H K:=by
 refine cM 48 476 ⟨λu=>?_,λu=>?_⟩
 .have:a=none:=by simp_all
  subst this;have w:=oJ (i H h);have:t=[]:=by simp_all
  subst this;exact k none 0 H (h.cp 5 1)
 refine h.al λb _ h=>?_;have bs:=i _ h.tl;have n:=aA.EA (cs:=[]) h 1 0 rfl;refine aA.append (m:=t.length) XF n 0 rfl bs eh (oK (λ_=>rfl) _) ez ez λf d e s=>⟨_,_,_,rfl,?_⟩;have j:aA e (ay 5 1 f (0+t.length) d ([]++t.map U8)::F):=s;rw[CC,Ha]at j;have:=k f d e j;rw[<-CC t.length]at this;exact this
theorem aiH(h:a=some ⟨aV a,aS a,none⟩):y_ a 0 c b=a:=by
 unfold y_;split;.rfl
 rw [h,HR,q2t,iF];rfl
theorem Sf(h:aA H F)(n:∀H,aA H F->aQ H a (t.map U8))(u:t.length<=1099511627776) (k:∀d e f,aA f (ay 5 1 d t.length e (t.map U8)::F)->K (.slice d t.length e) f):CF 66 #[.slice a t.length c] H K:=by refine cM 66 28 (h.al λb _ h=>?_);have j:=n _ h.tl;have s:=aA.EA (cs:=[]) h 1 0 rfl;refine aA.append (m:=t.length) XF s 0 rfl j eh (oK (λ_=>rfl) _) ez ez λd e f bs=>⟨_,_,_,rfl,?_⟩;have i:aA f (ay 5 1 d (0+t.length) e ([]++t.map U8)::F):=bs;rw[CC,Ha]at i;have:=k d e f i;rw[<-CC t.length]at this;exact this
theorem aQ.agJ{k:Nat}(h:aQ H a r)(n:r.length<=c):aQ H (y_ a k c 1) (r.drop k):=by
 intro j v i;have b:aT r (k+j)=Option.some v:=by grind [iE]
 let⟨d,m⟩:=h (k+j) v b;have f:=qf b;have e:y_ a k c 1=Option.some ⟨aV a,aS a+k,none⟩:=by unfold y_;rw[nO,d,HR,iF,q25];rfl
 rw[e];refine⟨rfl,?_⟩;grind [aV,aS]
theorem HX(a:0<=x)(b:x<4294967296):u32.wrap x=x:=by grind [IntKind.wrap,IntKind.bits,IntKind.signed]
theorem u8w(a:0<=x)(b:x<256):u8.wrap x=x:=by grind [IntKind.wrap,IntKind.bits,IntKind.signed]
theorem ZV(a:0<=x)(b:x<18446744073709551616):u64.wrap x=x:=by grind [IntKind.wrap,IntKind.bits,IntKind.signed]
def aI(l:List Int):Prop:=∀x∈l,0<=x/\x<256
def bS(u:Nat):List Int:=if h:u<128 then [(u:Int)] else ((128+u%128:Nat):Int)::bS (u/128)
termination_by u
decreasing_by omega
theorem px(h:c<128):bS c=[(c:Int)]:=by rw[bS,dif_pos h]
theorem py(h:¬c<128):bS c=((128+c%128:Nat):Int)::bS (c/128):=by rw[bS,dif_neg h]
theorem qk(u:Nat):aI (bS u):=by
 induction u using Nat.strongRecOn with
  | _ u ih=>
  by_cases h:u<128;.rw [px h];intro x a;grind
  rw [py h];intro x a;rcases DK.1 a with rfl|a;.omega
  exact ih (u/128) ez x a
theorem xA(u:Nat):0<(bS u).length:=by
 by_cases h:u<128;.rw [px h];grind
 grind [py]
inductive UR where
 | ok (u:Nat) (size:Nat)
 | form
 | ended
 deriving DecidableEq
def Fo:Nat->Nat->List Int->UR
 | _,_,[]=>.ended
 | acc,i,c::r=>if (c=0/\0<i)\/(1<c/\i=9) then .form else
   if c<128 then .ok (acc+c.toNat%128*2^(7*i)) (i+1) else Fo (acc+c.toNat%128*2^(7*i)) (i+1) r
theorem xB:∀{l:List Int} {a i u n:Nat},aI l->Fo a i l=.ok u n->i<=9->
  ∃w,u=a+w*2^(7*i)/\i<n/\n-i<=l.length/\bS w=l.take (n-i)/\n<=10/\(0<i->w≠0)/\w*2^(7*i)<2^64
 | [],a,i,u,n,_,h,_=>by grind [Fo]
 | c::r,a,i,u,n,hb,h,hi=>by
  have y:=hb c DQ;rw[Fo]at h
  split at h
  .cases h
  .rename_i j
   split at h
   .rename_i b
    cases h
    refine⟨c.toNat,?_,ez,?_,?_,ez,λh0=>?_,?_⟩
    .grind
    .grind
    .rw [px ez,show i+1-i=1 by omega]
     grind
    .grind
    .by_cases m:i=9
     .grind
     .calc c.toNat*2^(7*i)<128*2^(7*i):=(Nat.mul_lt_mul_right (q2u _)).2 ez
       _=2^(7+7*i):=by grind
       _<=2^64:=Nat.pow_le_pow_right ee ez
   .rename_i d;have m:i≠9:=λe=>j (Or.inr ⟨ez,e⟩)
    let⟨w,e1,e2,e3,e4,e5,e6,e7⟩:=xB (λx f=>hb x (DE _ f)) h ez
    have v:=e6 ez;have em:c.toNat%128+128*w=c.toNat%128+w*128:=ez
    have ep:(2:Nat)^(7*(i+1))=128*2^(7*i):=by grind
    refine⟨c.toNat%128+128*w,?_,ez,?_,?_,e5,λ_=>ez,?_⟩
    .grind
    .grind
    .rw [py ez,show n-i=(n-(i+1))+1 by omega,q2f,<-e4]
     grind
    .rw [ep]at e7;have t:i+1<=9:=ez
     have k:w*2^(7*(i+1))<2^(64-7*(i+1))*2^(7*(i+1)):=by
      rw[<-q2o,show 64-7*(i+1)+7*(i+1)=64 by omega,ep];exact e7
     have s:w<2^(64-7*(i+1)):=Nat.lt_of_mul_lt_mul_right k
     calc (c.toNat%128+128*w)*2^(7*i)<(128*2^(64-7*(i+1)))*2^(7*i):=(Nat.mul_lt_mul_right (q2u _)).2 ez
      _=2^64:=by rw[show (128:Nat)=2^7 from rfl,<-q2o,<-q2o,show 7+(64-7*(i+1))+7*i=64 by omega]
theorem xC:∀{w a i:Nat} (r:List Int),w<2^(64-7*i)->i<=9->(0<i->w≠0)->
  Fo a i (bS w++r)=.ok (a+w*2^(7*i)) (i+(bS w).length):=by
 intro w
 induction w using Nat.strongRecOn with
 | _ w ih=>
  intro a i r b hi h0
  by_cases h:w<128
  .rw [px h,List.singleton_append,Fo,b_,pO]
   .grind
   grind
  .have c:i≠9:=by
    grind
   rw[py h,q2m,Fo,b_,nO,ih (w/128) ez r ?_ ez (λ_=>ez)]
   .have ep:(2:Nat)^(7*(i+1))=128*2^(7*i):=by grind
    congr 1
    .rw [Fp,ep,q2x,show (128+w%128)%128=w%128 by omega,<-Nat.mul_assoc,<-q21]
     grind
    grind
   .rw [q2n ee]
    calc w<2^(64-7*i):=b
     _=2^(64-7*(i+1))*128:=by rw[show (128:Nat)=2^7 from rfl,<-q2o,show 64-7*(i+1)+7=64-7*i by omega]
   grind
theorem abz:∀{w a i k:Nat},k<(bS w).length->i+(bS w).length<=10->Fo a i ((bS w).take k)=.ended:=by
 intro w;induction w using Nat.strongRecOn with
  | _ w ih=>
  intro a i k b hi;by_cases h:w<128
  .rw [px h]at b ⊢;have:k=0:=by grind
   subst this;rfl
  rw [py h]at b hi ⊢;cases k with
   | zero=>rfl
   | succ k=>have c:=xA (w/128);simp only[CU]at b hi;rw[q2f,Fo,nO,nO];grind
theorem Sg:∀{w i:Nat},w<2^(64-7*i)->i<=9->i+(bS w).length<=10:=by
 intro w
 induction w using Nat.strongRecOn with
 | _ w ih=>
  intro i a hi
  by_cases h:w<128
  .grind [px]
  .have b:i≠9:=by
    grind
   rw[py h];have:=ih (w/128) ez (i:=i+1) (by
    rw[q2n ee]
    calc w<2^(64-7*i):=a
     _=2^(64-7*(i+1))*128:=by rw[show (128:Nat)=2^7 from rfl,<-q2o,show 64-7*(i+1)+7=64-7*i by omega]) ez
   grind
theorem rC(n:Nat):u8.wrap (n:Int)=((n%256:Nat):Int):=by grind [IntKind.wrap,IntKind.bits,IntKind.signed]
theorem aeK:∀n,n<256->(n ||| 128)=128+n%128:=by decide +kernel
theorem Si(n:Nat):aZ .or .u8 (u8.wrap (n:Int)) 128=((128+n%128:Nat):Int):=by grind [rC,aZ,BitVec.ofInt,aeK]
theorem abj(n:Nat):Int.fdiv (n:Int) (2^(min (Int.toNat 7) (u64.bits)))=((n/128:Nat):Int):=by show Int.fdiv (n:Int) 128=_;grind
theorem pz{u:Nat}(a:u<18446744073709551616):(bS u).length<=10:=by have:=Sg (w:=u) (i:=0) (by grind) ez;omega
theorem xD{bs:List Int}(h:aA H (ay 5 1 a bs.length c (bs.map U8)::F))(A:bs.length<=1099511627776)(s:b<18446744073709551616) (k:∀e d f,aA f (ay 5 1 e (bs++bS b).length d ((bs++bS b).map U8)::F)->K (.slice e (bs++bS b).length d) f) : CF 131 #[.slice a bs.length c,.int .u64 b] H K:=by
 refine cN 131 5161250280592460 [[(0,sS),(1,sU)]] ⟨λe t d v f=>∃(cs:List Int) (w:Nat),t=cs.length/\v=w/\w<18446744073709551616/\cs++bS w=bs++bS b/\aA f (ay 5 1 e cs.length d (cs.map U8)::F),λ_ _ _ b _=>b.toNat,⟨bs,b,rfl,rfl,s,rfl,h⟩,?_⟩;rintro a1 n1 c1 u1 B ⟨cs,w,rfl,rfl,C,m,j⟩;have y:cs.length<=1099511627786:=by have:=congrArg List.length m;grind [pz]
 refine⟨λx=>?_,λx=>?_⟩
 .have u:¬w<128:=by grind
  intro _ _ rfl rfl;rw[Si];refine j.CA XF 0 rfl rfl rfl ez ez λe d n i=>⟨_,_,_,rfl,ee,?_,by grind [abj]⟩;refine⟨cs++[((128+w%128:Nat):Int)],w/128,eh,abj w,ez,?_,?_⟩;.grind [py]
  rw [FW,p_];exact i
 have u:w<128:=by grind
 intro _ _ rfl rfl;rw[rC];refine j.CA XF 0 rfl rfl rfl ez ez λe d n i=>⟨_,_,_,rfl,?_⟩;have:=k e d n;rw[<-m,px u,p_]at this;refine this ?_;rw[FW];rw[q36 ez]at i;exact i
theorem Ju(d:n<2^b)(h:n+c*2^b<18446744073709551616):aZ .or .u64 (n:Int) ((c*2^b:Nat):Int)=((n+c*2^b:Nat):Int):=by
 have p:n<18446744073709551616:=ez;have m:c*2^b<18446744073709551616:=ez;have e1:(BitVec.ofInt u64.bits (n:Int)).toNat=n:=by rw[BitVec.ofInt_natCast,BitVec.toNat_ofNat];exact q36 p
 have e2:(BitVec.ofInt u64.bits ((c*2^b:Nat):Int)).toNat=c*2^b:=by rw[BitVec.ofInt_natCast,BitVec.toNat_ofNat];exact q36 m
 have e3:n ||| c*2^b=n+c*2^b:=by grind [Nat.mul_comm,Nat.two_pow_add_eq_or_of_lt]
 show u64.wrap ((BitVec.ofInt u64.bits (n:Int) ||| BitVec.ofInt u64.bits ((c*2^b:Nat):Int)).toNat:Int)=_;grind [ZV]
theorem agZ{c:Int}{i:Nat}(h0:0<=c)(a:c<256)(hi:i<=9)(b:i=9->c<=1) :
  u64.wrap ((u64.wrap (Int.tmod c 128))*2^(min (7*i) 64))=((c.toNat%128*2^(7*i):Nat):Int)/\c.toNat%128*2^(7*i)+2^(7*i)<=18446744073709551616:=by
 have em:Int.tmod c 128=((c.toNat%128:Nat):Int):=by grind
 have hb:c.toNat%128*2^(7*i)+2^(7*i)<=18446744073709551616:=by
  have e:c.toNat%128*2^(7*i)+2^(7*i)=(c.toNat%128+1)*2^(7*i):=by grind
  rw[e]
  by_cases h:i=9
  .grind
  .calc (c.toNat%128+1)*2^(7*i)<=128*2^(7*8):=Nat.mul_le_mul ez (Nat.pow_le_pow_right ee ez)
    _<=18446744073709551616:=ee
 grind [ZV]
def afg:UR->Value
 | .ok u n=>.tuple #[.int .u64 u,.int .i64 n,.int .i64 0]
 | .form=>.tuple #[.int .u64 0,.int .i64 0,.int .i64 10]
 | .ended=>.tuple #[.int .u64 0,.int .i64 0,.int .i64 15]
inductive ajL (bs:List Int)(k acc:Nat):Prop where
 | fin (h:bs.length<=k) (e:Fo acc k (bs.drop k)=.ended)
 | go (h:k<bs.length) (c:Int) (hc:bs[k]=c) (h0:0<=c) (h1:c<256) (hf:¬((c=0/\0<k)\/(1<c/\k=9)))
   (e1:c<128->Fo acc k (bs.drop k)=.ok (acc+c.toNat%128*2^(7*k)) (k+1))
   (e2:¬c<128->Fo acc k (bs.drop k)=Fo (acc+c.toNat%128*2^(7*k)) (k+1) (bs.drop (k+1)))
 | bad (h:k<bs.length) (c:Int) (hc:bs[k]=c) (hf:(c=0/\0<k)\/(1<c/\k=9)) (e:Fo acc k (bs.drop k)=.form)
theorem agh(hb:aI t)(k b:Nat):ajL t k b:=by
 rcases HQ k t.length with h|h
 .have hd:t.drop k=t[k]::t.drop (k+1):=RC h;have c:=hb _ (q_ h);by_cases hf:(t[k]=0/\0<k)\/(1<t[k]/\k=9);.exact .bad h _ rfl hf (by rw[hd,Fo,c_ hf])
  refine .go h _ rfl c.1 c.2 hf (λa=>?_) (λa=>?_);.rw [hd,Fo,b_ hf,c_ a]
  rw [hd,Fo,b_ hf,b_ a]
 exact .fin h (by rw[List.drop_eq_nil_of_le h];rfl)
theorem Jv{c:Nat}(F:aQ H a (t.map U8))(hb:aI t)(J:t.length<=1099511627776) :
  bX Tryz.prog 237 #[.slice a t.length c] H (afg (Fo 0 0 t)):=by
 unfold bX;refine cN 237 0x11215612399251d1b4c [[(5,sU),(10,sI)]] ⟨λu i y=>y=H/\∃k b:Nat,i=k/\u=b/\k<=9/\k<=t.length/\b<2^(7*k)/\Fo b k (t.drop k)=Fo 0 0 t,λ_ i _=>t.length-i.toNat,⟨rfl,0,0,rfl,rfl,ee,ED _,ee,rfl⟩,?_⟩
 rintro u i y ⟨rfl,k,b,rfl,rfl,D,K,d,n⟩;refine⟨λE=>?_,λE=>?_⟩
 .have s:k<t.length:=by grind
  have w:=F.at s;refine⟨⟨ez,ez⟩,_,_,w.1,_,w.2,?_⟩;have e7:i64.wrap (7*(k:Int))=((7*k:Nat):Int):=by grind [aN]
  have A:i64.wrap ((k:Int)+1)=((k+1:Nat):Int):=aN
  rcases agh hb k b with ⟨h,_⟩|⟨h,x,bs,h0,v,B,e1,e2⟩|⟨h,x,bs,B,e⟩
  .omega
  .rw [bs];have C:=agZ (c:=x) (i:=k) h0 v D (λe9=>by
    grind)
   refine⟨λm=>?_,λ_=>⟨ee,by rw[e7];omega,λj=>?_,λj=>?_⟩⟩
   .exfalso
    grind
   .conv=>whnf
    rw[e7,A,Fp];show _=_/\_;have f:u64.wrap (u64.wrap (Int.tmod x 128)*2^(min (7*k) u64.bits))=((x.toNat%128*2^(7*k):Nat):Int):=C.1;rw[f,Ju d ez,<-n,e1 (by grind)];exact⟨rfl,rfl⟩
   .conv=>whnf
    rw[e7,A,Fp];have f:u64.wrap (u64.wrap (Int.tmod x 128)*2^(min (7*k) u64.bits))=((x.toNat%128*2^(7*k):Nat):Int):=C.1;have G:¬x<128:=by grind
    rw[f,Ju d ez];have k9:k≠9:=λe9=>B (Or.inr ⟨ez,e9⟩)
    refine⟨⟨rfl,k+1,_,rfl,rfl,ez,ez,?_,?_⟩,by grind⟩
    .calc b+x.toNat%128*2^(7*k)<2^(7*k)+x.toNat%128*2^(7*k):=ez
      _=(x.toNat%128+1)*2^(7*k):=by grind
      _<=128*2^(7*k):=q1v _ ez
      _=2^(7*(k+1)):=by grind
    grind
  .rw [bs];refine⟨λ_=>?_,λm=>?_⟩
   .rw [<-n,e];exact⟨rfl,rfl⟩
   .exfalso
    grind
 .have I:t.length<=k:=by grind
  rcases agh hb k b with ⟨h,e⟩|⟨h,_⟩|⟨h,_⟩
  .rw [<-n,e];exact⟨rfl,rfl⟩
  .omega
  .omega
def RO(most:Int):UR->Value
 | .ok u n=>if max most 0<(u:Int) then .tuple #[.int .i64 0,.int .i64 0,.int .i64 17] else .tuple #[.int .i64 u,.int .i64 n,.int .i64 0]
 | .form=>.tuple #[.int .i64 0,.int .i64 0,.int .i64 10]
 | .ended=>.tuple #[.int .i64 0,.int .i64 0,.int .i64 15]
theorem Jw{c:Nat}(h:aQ H a (t.map U8))(hb:aI t)(i:t.length<=1099511627776)(hm:aG x) : bX Tryz.prog 242 #[.slice a t.length c,.int .i64 x] H (RO x (Fo 0 0 t)):=by
 unfold bX;refine cM 242 73180 ?_;have b:=Jv (c:=c) h hb i;have k:u64.wrap (if 0>x then 0 else x)=max x 0:=by grind [aG,ZV]
 cases hr:Fo 0 0 t with
  | ok u n=>
  rw[hr]at b;refine⟨_,_,_,b,(λd=>by cases d),λ_=>⟨λj=>?_,λj=>?_⟩⟩
  .have f:max x 0<(u:Int):=by grind
   unfold RO;dsimp only;rw[c_ f];exact⟨rfl,rfl⟩
  have e:¬max x 0<(u:Int):=by grind
  unfold RO;unfold aG at hm;dsimp only;rw[b_ e];exact⟨by show Value.tuple #[.int .i64 (i64.wrap _),_,_]=_;grind [aN],rfl⟩
  | form=>rw[hr]at b;exact⟨_,_,_,b,λ_=>⟨rfl,rfl⟩,(λd=>by cases d)⟩
  | ended=>rw[hr]at b;exact⟨_,_,_,b,λ_=>⟨rfl,rfl⟩,(λd=>by cases d)⟩
theorem AV{u:Nat}(h:aA H F)(t:∀H,aA H F->aQ H a [.int .u64 u])(s:u<18446744073709551616) (k:∀e b d,aA d (ay 5 1 e (bS u).length b ((bS u).map U8)::F)->K (.slice e (bS u).length b) d) : CF 130 #[.slice a 1 c] H K:=by
 refine cN 130 0x1121561239925144c [[(3,sS),(8,sI)]] ⟨λe m b i d=>(i=0/\m=0/\b=0/\e=none/\aA d F)\/(i=1/\m=(bS u).length/\aA d (ay 5 1 e (bS u).length b ((bS u).map U8)::F)),λ_ _ _ i _=>1-i.toNat,.inl ⟨rfl,rfl,rfl,rfl,h⟩,?_⟩;rintro a1 n1 c1 i x (⟨rfl,rfl,rfl,rfl,f⟩|⟨rfl,rfl,f⟩);.skip;refine⟨λ_=>?_,(λj=>by cases j)⟩;have n:=(t _ f) 0 _ rfl;refine⟨ee,_,_,n.1,_,n.2,?_⟩;have v:aA x (ay 5 1 none ([]:List Int).length 0 (([]:List Int).map U8)::F):=f.cp 5 1;refine xD (bs:=[]) v eh s λe b d w=>⟨_,_,_,rfl,.inr ⟨rfl,rfl,w⟩,by dsimp only;decide⟩
 skip;exact⟨(λj=>by cases j),λ_=>k _ _ _ f⟩
structure RS where
 e:Int
 bs:List Int
variable {s:RS}
def cx(most:Int)(s:RS):Int×RS:=if s.e≠0 then (0,s) else match Fo 0 0 s.bs with
 | .ok u n=>if max most 0<(u:Int) then (0,⟨17,s.bs⟩) else (u,⟨0,s.bs.drop n⟩)
 | .form=>(0,⟨10,s.bs⟩)
 | .ended=>(0,⟨15,s.bs⟩)
def bg(most:Int)(s:RS):List Int×RS:=if s.e≠0 then ([],s) else match Fo 0 0 s.bs with
 | .ok u n=>if max most 0<(u:Int) then ([],⟨17,s.bs⟩) else if s.bs.length<n+u then ([],⟨15,s.bs⟩) else ((s.bs.drop n).take u,⟨0,s.bs.drop (n+u)⟩)
 | .form=>([],⟨10,s.bs⟩)
 | .ended=>([],⟨15,s.bs⟩)
theorem rD(hb:aI t)(h:Fo 0 0 t=.ok c n):0<n/\n<=t.length/\c<18446744073709551616:=by let⟨w,b,u,d,_,_,_,a⟩:=xB hb h ez;grind
def kb(b:Nat)(s:RS):aF:=F2 λp:KQ×Nat=>ax b [.slice p.1 s.bs.length p.2,.int .i64 s.e] 439*ay 5 1 p.1 s.bs.length p.2 (s.bs.map U8)
theorem iY:aA H (kb b s::F)↔∃a c,aA H (ax b [.slice a s.bs.length c,.int .i64 s.e] 439::ay 5 1 a s.bs.length c (s.bs.map U8)::F):=by
 unfold kb;rw[cw];constructor;.grind [gZ]
 intro⟨a,c,h⟩;exact⟨(a,c),gZ.2 h⟩
def bN(s:List Int):Fb:=strOfNums s
theorem AW{size:Nat}(h:aA H (ax b [.slice a n c,.int .i64 0] 439::F))(hs:size<=n)(f:n<=c) (k:∀e,aA e (ax b [.slice (y_ a size c 1) (n-size) (c-size),.int .i64 0] 439::F)->K (.bool true) e) : CF 238 #[.pointer (some ⟨b,0,none⟩),.int .i64 size,.int .i64 0] H K:=by refine cM 238 125110962460 ⟨_,h.r 0,(λd=>by cases d),λ_=>⟨(λd=>by cases d),λ_=>⟨_,_,_,h.rd 0 rfl _,⟨ez,ez,ez⟩,?_⟩⟩⟩;rw[Fp];exact h.st 0 rfl rfl λe h=>k _ h
theorem oP(h:aA H (ax b [.slice a n c,.int .i64 0] 439::F))(i:v≠0) (k:∀f,aA f (ax b [.slice a n c,.int .i64 v] 439::F)->K (.bool false) f) : CF 238 #[.pointer (some ⟨b,0,none⟩),.int .i64 x,.int .i64 v] H K:=by refine cM 238 125110962460 ⟨_,h.r 0,(λd=>by cases d),λ_=>⟨λ_=>?_,λd=>by simp[i]at d⟩⟩;exact h.st 0 rfl rfl λf h=>k _ h
theorem xE{e0:Int}(h:aA H (ax b [.slice a n c,.int .i64 e0] 439::F))(f:e0≠0) (k:K (.bool false) H):CF 238 #[.pointer (some ⟨b,0,none⟩),.int .i64 x,.int .i64 v] H K:=by refine cM 238 125110962460 ⟨_,h.r 0,λ_=>k,λd=>by simp[f]at d⟩
theorem adX(h:aA H (ax b [.slice a n c,.int .i64 x] 439::F)):bX Tryz.prog 162 #[.pointer (some ⟨b,0,none⟩)] H (.int .i64 x):=by unfold bX;refine cM 162 28 ⟨_,h.r 0,rfl,rfl⟩
theorem Sj(h:aA H (ax b [.slice a n c,.int .i64 x] 439::F)):bX Tryz.prog 385 #[.pointer (some ⟨b,0,none⟩)] H (.int .i64 n):=by unfold bX;refine cM 385 28 ⟨_,_,_,h.r 0,rfl,rfl⟩
theorem nE(h:aA H (kb b s::F)):bX Tryz.prog 162 #[.pointer (some ⟨b,0,none⟩)] H (.int .i64 s.e):=by let⟨a,c,h⟩:=iY.1 h;exact adX h
theorem ql(h:aA H (kb b s::F)):bX Tryz.prog 385 #[.pointer (some ⟨b,0,none⟩)] H (.int .i64 s.bs.length):=by let⟨a,c,h⟩:=iY.1 h;exact Sj h
theorem tD{bs:List Int}(h:aA H F)(e:∀H,aA H F->aQ H a (bs.map U8))(f:bs.length<=1099511627776) (k:∀b d,aA d (kb b ⟨0,bs⟩::F)->K (.pointer (some ⟨b,0,none⟩)) d):CF 157 #[.slice a bs.length c] H K:=by refine cM 157 28 (tC h e f λm j n h=>⟨_,_,_,rfl,h.al λb i h=>k _ _ (iY.2 ⟨_,_,h⟩)⟩)
theorem uY{most:Int}(h:aA H (kb b s::F))(hb:aI s.bs)(B:s.bs.length<=1099511627776)(hm:aG most) (k:∀i,aA i (kb b (cx most s).2::F)->K (.int .i64 (cx most s).1) i) : CF 239 #[.pointer (some ⟨b,0,none⟩),.int .i64 most] H K:=by
 let⟨e,bs⟩:=s;dsimp only at hb B;let⟨a,c,h⟩:=iY.1 h;dsimp only at h;have E:=h.a_ 1 rfl;have G:=h.CD 1 rfl;refine cM 239 4572 ?_;have d:=Jw (c:=c) E hb B hm;have fin:∀r1 y:Int,∀(r:Int),(cx most ⟨e,bs⟩=(0,⟨y,bs⟩))->(∀j,(∀i,aA i (ax b [.slice a bs.length c,.int .i64 y] 439::ay 5 1 a bs.length c (bs.map U8)::F)->j (.bool false) i)->CF 238 #[.pointer (some ⟨b,0,none⟩),.int .i64 r1,.int .i64 r] H j)->CF 238 #[.pointer (some ⟨b,0,none⟩),.int .i64 r1,.int .i64 r] H λu D=>∃r3:Bool,u=(.bool r3)/\(((!r3))=true->K (.int .i64 0) D)/\(((!r3))=false->K (.int .i64 (cx most ⟨e,bs⟩).1) D):=by intro r1 y r v f;rw[v]at k ⊢;exact f _ λi x=>⟨_,rfl,λ_=>k _ (iY.2 ⟨_,_,x⟩),λm=>by cases m⟩
 by_cases v:e=0
 .subst v;cases hu:Fo 0 0 bs with
   | ok u n=>
   let⟨I,A,J⟩:=rD hb hu;rw[hu]at d;unfold RO at d;dsimp only at d;by_cases hm1:max most 0<(u:Int)
   .rw [c_ hm1]at d;refine⟨_,_,_,h.r 0,_,_,_,d,?_⟩;have f:=fin 0 17 17 (by grind [cx]) λj t=>oP h ee t;have e0:(cx most ⟨0,bs⟩).1=0:=by grind [cx]
    rw[e0]at f;exact f
   rw [b_ hm1]at d;refine⟨_,_,_,h.r 0,_,_,_,d,?_⟩;have ec:cx most ⟨0,bs⟩=((u:Int),⟨0,bs.drop n⟩):=by grind [cx]
   rw[ec]at k;refine AW h A G λi x=>⟨_,rfl,(λm=>by cases m),λ_=>k _ ?_⟩;have C:=x.QD 1 rfl n A;rw[q25,<-List.map_drop]at C;refine iY.2 ⟨y_ a n c 1,c-n,?_⟩;dsimp only;rw[T0];exact C
   | form=>
   rw[hu]at d;refine⟨_,_,_,h.r 0,_,_,_,d,?_⟩;have f:=fin 0 10 10 (by grind [cx]) λj t=>oP h ee t;have e0:(cx most ⟨0,bs⟩).1=0:=by grind [cx]
   rw[e0]at f;exact f
   | ended=>
   rw[hu]at d;refine⟨_,_,_,h.r 0,_,_,_,d,?_⟩;have f:=fin 0 15 15 (by grind [cx]) λj t=>oP h ee t;have e0:(cx most ⟨0,bs⟩).1=0:=by grind [cx]
   rw[e0]at f;exact f
 have ec:cx most ⟨e,bs⟩=(0,⟨e,bs⟩):=by grind [cx]
 rw[ec]at k;have w:∃r r1 r2:Int,RO most (Fo 0 0 bs)=.tuple #[.int .i64 r,.int .i64 r1,.int .i64 r2]:=by
  unfold RO;split;.split <;> exact⟨_,_,_,rfl⟩
  .grind
  grind
 let⟨r,r1,r2,w⟩:=w;rw[w]at d;refine⟨_,_,_,h.r 0,_,_,_,d,xE h v ⟨_,rfl,λ_=>k _ (iY.2 ⟨_,_,h⟩),λm=>by cases m⟩⟩
theorem tE{bs:List Int}(f:a=none\/∃b o,a=some ⟨b,o,none⟩)(d:aQ H a (bs.map U8)):dt Tryz.prog (convert 63 9 (.slice a bs.length c)) H (.string (bN bs)):=by
 intro w e;subst e;rcases f with rfl|⟨b,o,rfl⟩
 .have:=oJ d;have hb:bs=[]:=by simp_all
  subst hb;exact run_convert_bytes_nil w 63 5 kf kf _ _ 9 kf
 refine run_convert_bytes_arg w 63 5 kf kf b o _ c bs rfl (λi hi=>?_) 9 kf;have h:=(d.at hi).2;grind [aV,aS,nn]
theorem abf{F:List aF}{sz k:Nat}(h:aA H (ay b sz a n c r::F)):y_ a k c sz=none\/∃e o,y_ a k c sz=some ⟨e,o,none⟩:=by
 have d:a=none\/∃e o,a=some ⟨e,o,none⟩:=by
  rcases (kw (F:=star F) h).2 with ⟨d,_⟩|⟨e,pre,post,f,fr,d,_⟩;.grind
  grind
 unfold y_;split;.exact d
 rcases d with rfl|⟨e,o,rfl⟩;.grind
 right;rw[HR,iF];grind
theorem oQ{most:Int}(h:aA H (kb b s::F))(hb:aI s.bs)(E:s.bs.length<=1099511627776)(hm:aG most) (k:∀v,aA v (kb b (bg most s).2::F)->K (.string (bN (bg most s).1)) v) : CF 165 #[.pointer (some ⟨b,0,none⟩),.int .i64 most] H K:=by
 let⟨e,bs⟩:=s;dsimp only at hb E;let⟨a,c,h⟩:=iY.1 h;dsimp only at h;have L:=h.a_ 1 rfl;have Q:=h.CD 1 rfl;refine R9 ?_;have f:=Jw (c:=c) L hb E hm;have fin:∀(r r1 d D:Int),bg most ⟨e,bs⟩=([],⟨D,bs⟩)->(∀w:KE,(∀v,aA v (ax b [.slice a bs.length c,.int .i64 D] 439::ay 5 1 a bs.length c (bs.map U8)::F)->w (.bool false) v)->CF 238 #[.pointer (some ⟨b,0,none⟩),.int .i64 (i64.wrap (r1+r)),.int .i64 d] H w)->uW.r1 b 0 K r r1 d H:=by intro r r1 d D y P;unfold uW.r1;rw[y]at k;refine⟨_,_,_,h.r 0,P _ λv x=>⟨_,rfl,λ_=>k _ (iY.2 ⟨_,_,x⟩),λj=>by cases j⟩⟩
 by_cases y:e=0
 .subst y;cases hu:Fo 0 0 bs with
   | ok u n=>
   let⟨T,U,V⟩:=rD hb hu;rw[hu]at f;unfold RO at f;dsimp only at f;by_cases hm1:max most 0<(u:Int);.rw [c_ hm1]at f;refine⟨_,_,_,h.r 0,_,_,_,f,λ_=>trivial,_,_,_,λ_=>h.r 0,λA i=>⟨λj=>by simp at j,λ_=>i _ _ (fin _ _ _ 17 (by grind [bg]) λw m=>oP h ee m)⟩⟩
   rw [b_ hm1]at f;unfold aG at hm;have O:(u:Int)<=9223372036854775807:=ez;have e1:i64.wrap (((bs.length:Nat):Int)-(n:Int))=((bs.length-n:Nat):Int):=by grind [aN]
   refine⟨_,_,_,h.r 0,_,_,_,f,λ_=>trivial,_,_,_,λ_=>h.r 0,λA i=>⟨λB=>i _ _ ?_,λB=>i _ _ ?_⟩⟩
   .rw [e1]at B;have R:bs.length<n+u:=by grind
    exact fin _ _ _ 15 (by grind [bg]) λw m=>oP h ee m
   rw [e1]at B;have S:¬bs.length<n+u:=by grind
   have N:bg most ⟨0,bs⟩=((bs.drop n).take u,⟨0,bs.drop (n+u)⟩):=by grind [bg]
   rw[N]at k;unfold uW.r1;have e2:i64.wrap ((n:Int)+(u:Int))=((n+u:Nat):Int):=by grind [aN]
   refine⟨_,_,_,h.r 0,?_⟩;rw[e2];refine AW h ez Q λv x=>⟨_,rfl,(λj=>by cases j),λ_=>⟨⟨ez,ez,ez⟩,bN ((bs.drop n).take u),?_,k _ ?_⟩⟩;.rw [Fp,Fp,q39];have M:=x.tl.a_ 0 rfl;have I:=(M.agJ (k:=n) (c:=c) (by grind)).take u;rw[<-List.map_drop,<-List.map_take]at I;have G:=tE (c:=c-n) (abf x.tl) I;rw[q23,T0,Nat.min_eq_left ez]at G;exact G
   have J:=x.QD 1 rfl (n+u) ez;rw[q25,<-List.map_drop]at J;refine iY.2 ⟨y_ a (n+u) c 1,c-(n+u),?_⟩;dsimp only;rw[T0];exact J
   | form=>rw[hu]at f;refine⟨_,_,_,h.r 0,_,_,_,f,λ_=>trivial,_,_,_,λ_=>h.r 0,λA i=>⟨λj=>by simp at j,λ_=>i _ _ (fin _ _ _ 10 (by grind [bg]) λw m=>oP h ee m)⟩⟩
   | ended=>rw[hu]at f;refine⟨_,_,_,h.r 0,_,_,_,f,λ_=>trivial,_,_,_,λ_=>h.r 0,λA i=>⟨λj=>by simp at j,λ_=>i _ _ (fin _ _ _ 15 (by grind [bg]) λw m=>oP h ee m)⟩⟩
 have C:∃r r1 r2:Int,RO most (Fo 0 0 bs)=.tuple #[.int .i64 r,.int .i64 r1,.int .i64 r2]:=by
  unfold RO;split;.split <;> exact⟨_,_,_,rfl⟩
  .grind
  grind
 let⟨r,r1,r2,C⟩:=C;rw[C]at f;have t:∀d,uW.r1 b 0 K r r1 d H:=λd=>fin r r1 d e (by grind [bg]) λw m=>xE h y (m _ h);exact⟨_,_,_,h.r 0,_,_,_,f,λ_=>trivial,_,_,_,λ_=>h.r 0,λA i=>⟨λB=>i _ _ (t _),λ_=>i _ _ (t _)⟩⟩
theorem pA{b:List Int}(d:aI t)(hb:aI b):aI (t++b):=λx c=>(C6.1 c).elim (d x) (hb x)
theorem uZ(n:Nat)(c:aI t):aI (t.take n):=λx b=>c x (RB b)
theorem qm(n:Nat)(c:aI t):aI (t.drop n):=λx b=>c x (q22 b)
theorem rE{xs:List Int}(h:aI xs)(i:Nat)(hi:i<xs.length):((UInt8.ofNat (xs[i]).toNat).toNat:Int)=xs[i]:=by have:=h _ (q_ hi);grind [UInt8.toNat_ofNat']
theorem aek(h:aQ H a r)(h0:r≠[]):y_ a 0 c 1=a:=by
 cases r with
 | nil=>grind
 | cons v cs=>exact aiH (h 0 v rfl).1
theorem xF(hb:aI t)(h:aA H F)(k:∀a c s,aA s (ay 5 1 a t.length c (t.map U8)::F)->K (.slice a t.length c) s) : cv Tryz.prog (convert 9 63 (.string (bN t))) H K:=by
 refine .mk λw y=>?_;subst y;have hs:(bN t).size=t.length:=strOfNums_size t;have j:=run_bytes_of_string w 9 63 5 (bN t) (P:=Tryz.prog) kf kf kf;rw[hs]at j;have d:=grownCap_ge w t.length 0 5;obtain⟨cap,m⟩:∃cap,grownCap w t.length 0 5=cap:=⟨_,rfl⟩;rw[m]at j d;have u:(bytesRow (bN t) cap).toList=t.map U8++List.replicate (cap-t.length) (U8 0):=by
  have e1:(bytesRow (bN t) cap).toList=(bN t).data.toList.map (λb=>U8 (b.toNat:Int))++List.replicate (cap-(bN t).size) (U8 0):=by grind [bytesRow,Array.toList_map,Array.toList_replicate]
  have e2:(bN t).data.toList.map (λb=>U8 (b.toNat:Int))=t.map U8:=by have:(bN t).data.toList=t.map λn=>UInt8.ofNat n.toNat:=strOfNums_data t;rw[this,XL];refine XK eh λi v x=>?_;simp only[q2h,Function.comp_apply];grind [rE]
  grind
 have e:bytesRow (bN t) cap=(t.map U8++List.replicate (cap-t.length) (U8 0)).toArray:=by grind
 refine⟨_,_,j,⟨rfl,rfl,rfl⟩,k _ _ _ ?_⟩;rw[e];have f:aA _ _:=h.push (.cells (t.map U8++List.replicate (cap-t.length) (U8 0)).toArray 5 ((t.map U8++List.replicate (cap-t.length) (U8 0)).toArray.size,(t.map U8++List.replicate (cap-t.length) (U8 0)).toArray.size+1));generalize hC:t.map U8++List.replicate (cap-t.length) (U8 0)=C at f;have A:C.length=cap:=by grind
 refine aA.mono f λp f=>⟨eh,.inr ⟨_,[],List.replicate (cap-t.length) (U8 0),5,(C.toArray.size,C.toArray.size+1),rfl,d,eh,λ_ i v x B=>?_,?_⟩⟩;.grind
 rw [Ha,hC];exact f
open  Go.RowKit Go.Maps Go.Sort Go.Shelf
theorem Sk(h:aA H F)(i:Nat)(P:aX i F=ay 3 1 a t.length c (t.map (Value.int .i64)))(v:t.length<4611686018427387904) (k:∀E,aA E (put i (ay 3 1 a t.length c ((i_ t).map (Value.int .i64))) F)->K (.tuple #[]) E) : CF 348 #[.slice a t.length c] H K:=by
 refine .mk λw M=>?_;subst M;have D:=h.FP i;rw[P]at D;obtain⟨Q,⟨rfl,I,rfl,m⟩|⟨b,pre,post,C,fr,rfl,A,u,f,m⟩⟩:=kw D;.have J:t=[]:=q2k.1 I;subst J;refine mF (AnyM.slices_Sort_int_none Tryz.i_ none 0 w) ?_;rintro e N ⟨rfl,rfl⟩;refine⟨_,rfl,⟨rfl,rfl,rfl⟩,k _ (aA.back ?_)⟩;rw[show (i_ ([]:List Int))=[] from xd List.Pairwise.nil];exact ry m
 have hb:=aR.get m;have y:b<w.heap.size:=aR.lt m;have G:Holds (Value.int .i64) w b pre.length t.toArray:=by
  intro j xs;have d:j<t.length:=eu xs;refine⟨?_,?_⟩;case refine_2=>have:=f (pre.length+j) ez ez;simp only[World.frozen?,hb,Bool.and_eq_false_iff,DA];omega
  simp only[World.cell?,hb,Option.isSome_none,q2y,if_false,List.getElem?_toArray];rw[Fv,List.getElem?_append_right ez,q39,List.getElem?_append_left (eu d),List.getElem?_map,List.getElem?_eq_getElem d];simp[d]
 refine mF (AnyM.slices_Sort_int Tryz.i_ b pre.length c t w G y v) ?_;rintro e N ⟨rfl,n,os,rfl⟩;refine⟨_,rfl,⟨rfl,rfl,rfl⟩,k _ (aA.back ?_)⟩;have hs:(i_ t).length=t.length:=tg t;have x:aR (w.heap.modify b (onCells (putCells (Value.int .i64) pre.length (i_ t).toArray))) (pt b (.cells (pre++(i_ t).map (Value.int .i64)++post).toArray C fr)*star (del i F)):=by
  refine aR.CS m ?_ λj xs=>?_;.rw [Array.getElem?_modify,c_ rfl,hb];simp only[HR,onCells];rw[Jt _ _ _ _ (by simp[hs])]
  rw [Array.getElem?_modify,b_ (Ne.symm xs)]
 have L:aR (w.heap.modify b (onCells (putCells (Value.int .i64) pre.length (i_ t).toArray))++os.toList.toArray) (pt b (.cells (pre++(i_ t).map (Value.int .i64)++post).toArray C fr)*star (del i F)):=x.grow λj xs=>by rw[Array.getElem?_append_left xs]
 have s:=L.frame (B:=ay 3 1 (some ⟨b,pre.length,none⟩) t.length c ((i_ t).map (Value.int .i64))) λp O=>⟨by simp[hs],.inr ⟨b,pre,post,C,fr,rfl,A,u,λ_=>f,O⟩⟩;simpa[grow,putRow,mapBlock,Sort.ahead,i_] using s
def C4(v:Int):Nat:=v.natAbs
def jS(a b:Int):Int×Int:=if aG (a+b) then (a+b,0) else (0,12)
def YJ(n:Nat)(neg:Bool):Int×Int:=
 if neg then (if 9223372036854775808<n then (0,12) else (-(n:Int),0)) else (if 9223372036854775807<n then (0,12) else ((n:Int),0))
def qn(a b c:Int)(up:Bool):Int×Int:=
 if c<1 then (0,11) else
 if c.toNat<=C4 a*C4 b/18446744073709551616 then (0,12) else
 let q:=C4 a*C4 b/c.toNat
 if 9223372036854775808<q then (0,12) else
 let neg:=!(decide (a<0) == decide (b<0))
 YJ (if !decide (C4 a*C4 b%c.toNat=0) && !(neg == up) then q+1 else q) neg
abbrev ju(kl:Int):Prop:=0<=kl/\kl<=100000
def XS(x kl:Int):Int×Int:=
 if x < -4611686018427387904\/4611686018427387904<x\/¬ju kl then (0,11) else
 if 0<x then (if 1<(qn (x-1) 1000000 (1000000+kl) true).1 then (qn (x-1) 1000000 (1000000+kl) true).1 else 1,(qn (x-1) 1000000 (1000000+kl) true).2)
 else (i64.wrap (0-(qn (1-x) 1000000 (1000000-kl) false).1),(qn (1-x) 1000000 (1000000-kl) false).2)
def qo(x kl:Int):Int×Int:=
 if x < -4611686018427387904\/4611686018427387904<x then (0,11) else (i64.wrap (0-(XS (-x) kl).1),(XS (-x) kl).2)
theorem acz(x kl:Int):aG (qo x kl).1:=by
 unfold qo;split;.simp [aG]
 exact rz _
structure Gp where
 lo:Int
 hi:Int
deriving DecidableEq
variable {B:List Gp}{D:Gp}
def Gp.z:Gp:=⟨0,0⟩
abbrev kE(g:Gp):Xa:=[.int .i64 g.lo,.int .i64 g.hi]
abbrev kF(g:Gp):Value:=.agg #[.int .i64 g.lo,.int .i64 g.hi]
abbrev Gp.ok(g:Gp):Prop:=g.lo<=g.hi
def ab7(a b:Gp):Gp:=⟨if b.lo>a.lo then b.lo else a.lo,if b.hi<a.hi then b.hi else a.hi⟩
def nF:Gp->List Gp->Gp×Int
 | s,[]=>if s.ok then (s,0) else (Gp.z,13)
 | s,g::r=>if g.ok then nF (ab7 s g) r else (Gp.z,10)
def lK(l:List Gp):Gp×Int:=nF ⟨-9223372036854775808,9223372036854775807⟩ l
theorem xG(g:Gp):(kE g).length=2:=rfl
def xH(g:Gp):Int:=if g.ok then u64.wrap ((u64.wrap g.hi)-(u64.wrap g.lo)) else 0
def aeV(g:Gp):Int:=if g.ok then i64.wrap ((aZ .and .i64 g.lo g.hi)+(Int.fdiv (aZ .xor .i64 g.lo g.hi) (2^(min (Int.toNat 1) (i64.bits))))) else 0
theorem Jx(d:aG x)(hb:aG v):bX Tryz.prog 407 #[aB x,aB v] H (.tuple #[aB (jS x v).1,aB (jS x v).2]):=by
 refine Re ?_;unfold ID;rw[adp d hb];unfold jS;refine⟨λc=>?_,λc=>?_⟩;.grind
 have:aG (x+v):=eu c;rw[c_ this];have e:i64.wrap (x+v)=x+v:=aN (by grind [aG]) (by grind [aG]);grind
theorem Jy(h:aG v):bX Tryz.prog 463 #[aB v] H (.int .u64 (C4 v:Nat)):=by
 refine QP ?_;unfold C4;unfold aG at h;refine⟨λa=>⟨?_,rfl⟩,λa=>⟨?_,rfl⟩⟩;.simp only[v_]at a;grind [eF]
 grind [eF]
theorem Jz(h:n<18446744073709551616):bX Tryz.prog 465 #[.int .u64 (n:Nat),.bool G] H (.tuple #[aB (YJ n G).1,aB (YJ n G).2]):=by
 refine cM 465 4852664796 ?_;unfold YJ;cases G
 .refine⟨λb=>by simp at b,λ_=>⟨λa=>?_,λa=>?_⟩⟩
  .have:9223372036854775807<n:=by grind
   rw[b_ Bool.false_ne_true,c_ this];exact⟨rfl,rfl⟩
  have:¬9223372036854775807<n:=by grind
  conv=>whnf
  rw[b_ Bool.false_ne_true,b_ this,aN];exact⟨rfl,rfl⟩
 refine⟨λ_=>⟨λa=>?_,λa=>?_⟩,λb=>by simp at b⟩
 .have:9223372036854775808<n:=by grind
  rw[c_ rfl,c_ this];exact⟨rfl,rfl⟩
 have:¬9223372036854775808<n:=by grind
 rw[c_ rfl,b_ this];have e:i64.wrap (u64.wrap (0-(n:Int)))=-(n:Int):=by grind [eF,kA]
 conv=>whnf
 rw[e];exact⟨rfl,rfl⟩
theorem Sm(y:n<18446744073709551616)(d:c<18446744073709551616) : bX Tryz.prog 462 #[.int .u64 (n:Nat),.int .u64 (c:Nat)] H (.tuple #[.int .u64 ((n*c/18446744073709551616:Nat):Int),.int .u64 ((n*c%18446744073709551616:Nat):Int)]):=by refine QQ ⟨ee,ee,ee,ee,ee,?_⟩;have hm:=mul64_arith (n:Int) (c:Int) ez ez ez ez;have key:∀a:Nat,u64.wrap (a:Int)=((a%18446744073709551616:Nat):Int):=agI;have b:∀a:Nat,aZ .and .u64 ((a%18446744073709551616:Nat):Int) 4294967295=((a%18446744073709551616%4294967296:Nat):Int):=λa=>uO (q2g _ ee);rw[uO y,uO d];simp only[acJ,agl,ajC,key,b,and_true];grind
theorem So{s:Fb}{i:Nat}(h:i<s.size):F3 s i=((s[i]'h).toNat:Int):=by unfold F3;rw[Array.getElem?_eq_getElem (show i<s.data.size from h)];rfl
theorem Sp(h:n<18446744073709551616):bitLen n<=64:=by
 unfold bitLen;split;.omega
 rename_i h0;have:=(Nat.log2_lt h0).2 (show n<2^64 from h);omega
theorem J0(h:c<18446744073709551616):bX Tryz.prog 265 #[.int .u64 (c:Nat)] H (aB (bitLen c:Nat)):=by
 refine cN 265 0x1217149217149217149c [[(0,sU),(2,sI)],[(0,sU),(2,sI)],[(0,sU),(2,sI)]] ?_;have last:∀(y:Nat) (n:Nat),y<256->bitLen c=n+bitLen y->n<=64->oO.r1 (λu x=>u=aB (bitLen c:Nat)/\x=H) (y:Int) (n:Int) H:=by
  intro y n f hb j;unfold oO.r1;have m:u8.wrap (y:Int)=(y:Int):=u8w ez ez;have s:=bitLen_le8 y f;rw[m];refine⟨⟨ez,?_⟩,?_,rfl⟩;.show (y:Int)<256;omega
  rw [show F3 _ ((y:Int)).toNat=((bitLen y:Nat):Int) from (So (i:=y) (by show y<256;omega)).trans (congrArg Nat.cast (len8tab_get y (by show y<256;omega)))];grind [aN]
 have s2:∀(y:Nat) (n:Nat),y<65536->bitLen c=n+bitLen y->n<=56->oO.r2 (λu x=>u=aB (bitLen c:Nat)/\x=H) (y:Int) (n:Int) H:=by
  intro y n f hb j;unfold oO.r2;refine λk a=>⟨λb=>⟨ee,?_⟩,λb=>a _ _ _ (last y n (by grind) hb ez)⟩;simp only[v_]at b;have e:Int.fdiv (y:Int) (2^(min (Int.toNat 8) (u64.bits)))=((y/256:Nat):Int):=tk y 8;have d:i64.wrap ((n:Int)+8)=((n+8:Nat):Int):=by grind [aN]
  rw[e,d];refine a _ _ _ (last (y/256) (n+8) ez ?_ ez);have:=bitLen_shift y 8 (by grind);grind
 have s3:∀(y:Nat) (n:Nat),y<4294967296->bitLen c=n+bitLen y->n<=32->oO.r3 (λu x=>u=aB (bitLen c:Nat)/\x=H) (y:Int) (n:Int) H:=by
  intro y n f hb j;unfold oO.r3;refine λk a=>⟨λb=>⟨ee,?_⟩,λb=>a _ _ _ (s2 y n (by grind) hb ez)⟩;simp only[v_]at b;have e:Int.fdiv (y:Int) (2^(min (Int.toNat 16) (u64.bits)))=((y/65536:Nat):Int):=tk y 16;have d:i64.wrap ((n:Int)+16)=((n+16:Nat):Int):=by grind [aN]
  rw[e,d];refine a _ _ _ (s2 (y/65536) (n+16) ez ?_ ez);have:=bitLen_shift y 16 (by grind);grind
 refine λk a=>⟨λb=>⟨ee,?_⟩,λb=>a _ _ _ (s3 c 0 (by grind) ez ez)⟩;simp only[v_]at b;rw[acJ];refine a _ _ _ (s3 (c/4294967296) 32 ez ?_ ez);have:=bitLen_shift c 32 (by grind);rw[this]
theorem Sq(h:c<18446744073709551616):bX Tryz.prog 477 #[.int .u64 (c:Nat)] H (aB ((64-bitLen c:Nat):Int)):=by refine QN ?_;have a:=Sp h;refine⟨_,J0 h,?_,rfl⟩;grind [aN]
theorem aaY(a b:Nat):Int.tdiv (a:Int) (b:Int)=((a/b:Nat):Int):=rfl
theorem aiA(a b:Nat):Int.tmod (a:Int) (b:Int)=((a%b:Nat):Int):=rfl
theorem aix{u u1 Q Y:Nat}(h:Q=(u*4294967296+u1)/Y)(c:0<Y)(a:Y<18446744073709551616) : u64.wrap ((u64.wrap ((u64.wrap ((u:Int)*4294967296))+(u1:Int)))-(u64.wrap ((Q:Int)*(Y:Int))))=(((u*4294967296+u1)%Y:Nat):Int):=by have b:=Nat.div_add_mod' (u*4294967296+u1) Y;have d:=q2g (u*4294967296+u1) c;rw[<-h]at b;grind [eF]
theorem ag6{y:Nat}(h0:0<y)(h:y<18446744073709551616):64-bitLen y<64/\y*2^(64-bitLen y)<18446744073709551616/\9223372036854775808<=y*2^(64-bitLen y):=by
 let⟨b,a⟩:=bitLen_spec y;have a:=a ez;have d:bitLen y<=64:=by
  unfold bitLen
  split
  .omega
  .rename_i h0;have:=(Nat.log2_lt h0).2 (show y<2^64 from h);omega
 have c:0<bitLen y:=by grind
 refine⟨ez,?_,?_⟩
 .calc y*2^(64-bitLen y)<2^bitLen y*2^(64-bitLen y):=(Nat.mul_lt_mul_right (q2u _)).2 b
   _=18446744073709551616:=by rw[<-q2o,show bitLen y+(64-bitLen y)=64 by omega]
 .calc 9223372036854775808=2^(bitLen y-1)*2^(64-bitLen y):=by rw[<-q2o,show bitLen y-1+(64-bitLen y)=63 by omega]
   _<=y*2^(64-bitLen y):=q1v _ a
theorem ag7{s:Nat}(hs:s<64)(d:n<b)(y:c<18446744073709551616)(h:b*2^s<18446744073709551616) : n*2^s+c/2^(64-s)<b*2^s/\aZ .or .u64 (u64.wrap ((n:Int)*2^s)) (Int.fdiv (c:Int) (2^(64-s)))=((n*2^s+c/2^(64-s):Nat):Int):=by
 have e:c/2^(64-s)<2^s:=by rw[q2n (q2u _),<-q2o,show s+(64-s)=64 by omega];exact y
 have lo:n*2^s+2^s<=b*2^s:=by rw[<-Nat.succ_mul];exact q1v _ d
 refine⟨ez,?_⟩;have e1:(n:Int)*2^s=((n*2^s:Nat):Int):=by grind
 have a:n*2^s<18446744073709551616:=Nat.lt_of_lt_of_le (Nat.lt_add_of_pos_right (q2u s)) (DB lo (Nat.le_of_lt h));rw[e1,tk,QB a,ai8 a (Nat.lt_of_le_of_lt (Nat.div_le_self _ _) y)];grind [Nat.mul_comm,Nat.two_pow_add_eq_or_of_lt]
theorem acT{y Y u v:Nat}(hs:n<64)(h5:Y<18446744073709551616)(j1:9223372036854775808<=Y)(hu:u<Y)(h7:v<18446744073709551616)(j3:c≠0) (R:u64.wrap ((y:Int)*2^n)=(Y:Int)) (i:u64.wrap ((b:Int)*2^n)=(v:Int)) (S:aZ .or .u64 (u64.wrap ((c:Int)*2^n)) (Int.fdiv (b:Int) (2^(64-n)))=(u:Int)) (hz:bX Tryz.prog 477 #[.int .u64 (y:Nat)] H (aB (n:Nat))) (k:K (.tuple #[.int .u64 (((u*18446744073709551616+v)/Y:Nat):Int),.int .u64 ((((u*18446744073709551616+v)%Y)/2^n:Nat):Int)]) H) : mE.r5 (c:Int) (b:Int) (y:Int) K H:=by
 unfold mE.r5;refine⟨λe=>?_,λe=>?_⟩;.grind
 refine⟨_,hz,?_⟩;have D:u64.wrap (n:Int)=(n:Int):=QB ez;have em:min (Int.toNat (n:Int)) u64.bits=n:=by grind [IntKind.bits]
 have lo:u64.wrap (64-(n:Int))=((64-n:Nat):Int):=by grind [eF]
 have h:min (Int.toNat ((64-n:Nat):Int)) u64.bits=64-n:=by grind [IntKind.bits]
 obtain⟨u1,l0⟩:∃u1,v/4294967296=u1:=⟨_,rfl⟩;obtain⟨u0,l5⟩:∃u0,v%4294967296=u0:=⟨_,rfl⟩;obtain⟨y1,h9⟩:∃y1,Y/4294967296=y1:=⟨_,rfl⟩;obtain⟨y0,j2⟩:∃y0,Y%4294967296=y0:=⟨_,rfl⟩;have t:y1*4294967296+y0=Y:=ez;have ev:u1*4294967296+u0=v:=by grind
 have b1:2147483648<=y1:=ez;have h4:y1<4294967296:=ez;have b0:y0<4294967296:=ez;have c1:u1<4294967296:=ez;have c0:u0<4294967296:=ez;have W:=ae4 (u:=u) (u1:=u1) (u0:=u0) (y:=Y) ez;have e0:u*18446744073709551616+v=(u*4294967296+u1)*4294967296+u0:=by grind
 rw[e0,W.1]at k;rw[W.2]at k;have J:Int.fdiv (Y:Int) (2^(min (Int.toNat 32) (u64.bits)))=(y1:Int):=by grind
 have I:Int.fdiv (v:Int) (2^(min (Int.toNat 32) (u64.bits)))=(u1:Int):=by grind
 have N:aZ .and .u64 (Y:Int) 4294967295=(y0:Int):=by grind [uO]
 have C:aZ .and .u64 (v:Int) 4294967295=(u0:Int):=by grind [uO]
 have cond:∀q r w1:Nat,r<4294967296->w1<4294967296->((decide (4294967296<=(q:Int))||decide (u64.wrap ((u64.wrap (4294967296*(r:Int)))+(w1:Int))<u64.wrap ((q:Int)*(y0:Int))))=true↔(4294967296<=q\/4294967296*r+w1<q*y0)):=by
  intro q r w1 B hw;have ea:u64.wrap ((u64.wrap (4294967296*(r:Int)))+(w1:Int))=((4294967296*r+w1:Nat):Int):=by grind [eF]
  rw[ea,agl,agI];simp only[HT,v_];by_cases hB:4294967296<=q;.grind
  have:q*y0<=4294967296*4294967295:=Nat.mul_le_mul ez ez;grind
 have T:∀q r:Nat,1<=q->r<4294967296->q<=4294967297->u64.wrap ((q:Int)-1)=((q-1:Nat):Int)/\u64.wrap ((r:Int)+(y1:Int))=((r+y1:Nat):Int):=by grind [eF]
 have O:∀U:Nat,U<Y->u64.wrap ((U/y1:Nat):Int)=((U/y1:Nat):Int)/\u64.wrap ((U:Int)-u64.wrap (((U/y1:Nat):Int)*(y1:Int)))=((U%y1:Nat):Int)/\U%y1<4294967296:=by intro U hU;have h1:=Nat.div_add_mod' U y1;have h2:=Nat.div_le_self U y1;have h3:=q2g U (show 0<y1 by omega);grind [eF]
 obtain⟨s,d⟩:∃s,(u*4294967296+u1)/Y=s:=⟨_,rfl⟩;obtain⟨R1,G⟩:∃R1,(u*4294967296+u1)%Y=R1:=⟨_,rfl⟩;have x:R1<Y:=by grind [Nat.mod_lt]
 have w1:=aix (u:=u) (u1:=u1) (Q:=s) (Y:=Y) d.symm ez ez;rw[G]at w1;obtain⟨w,hi⟩:∃w,(R1*4294967296+u0)/Y=w:=⟨_,rfl⟩;have w0:=aix (u:=R1) (u1:=u0) (Q:=w) (Y:=Y) hi.symm ez ez;have h0:s<4294967296:=by rw[<-d];exact ago hu c1
 have Z:w<4294967296:=by rw[<-hi];exact ago x c0
 rw[d,G,hi]at k;have last:mE.r1 (c:Int) b y K (n:Int) (s:Int) (w:Int) H:=by
  unfold mE.r1;simp only[D,em,lo,h,R,i,S,J,I,N,C,w1,w0];refine⟨ez,?_⟩;have ea:u64.wrap ((u64.wrap ((s:Int)*4294967296))+(w:Int))=((s*4294967296+w:Nat):Int):=by grind [eF]
  rw[ea,tk];exact k
 have E:mE.r3 (c:Int) b y K (n:Int) (s:Int) H:=by
  unfold mE.r3;simp only[D,em,lo,h,R,i,S,J,I,N,C,w1,aaY];let⟨i1,i2,i3⟩:=O R1 x;let⟨n1,n2,n3,n4⟩:=IL (y0:=y0) (u:=R1) (u1:=u0) b1 b0 ez c0;rw[t,hi]at n3;refine⟨ez,λh8 L=>⟨λa q0 P=>P=H/\∃q r:Nat,q0=q/\a=r/\q*y1+r=R1/\r<4294967296/\w<=q/\q<=4294967297,λa _ _=>4294967296-a.toNat,?_,?_⟩⟩;.rw [i1,i2];exact⟨rfl,_,_,rfl,rfl,n1,i3,n3,n4⟩
  rintro a q0 P ⟨rfl,q,r,rfl,rfl,M,B,V,A⟩;simp only[D,em,lo,h,R,i,S,J,I,N,C];refine⟨λe=>?_,λe=>?_⟩
  .have e:=(cond q r u0 B c0).1 e;have hd:=ach (y0:=y0) (u:=R1) (u1:=u0) b1 ez c0 M e;rw[t,hi]at hd;obtain⟨p,rfl⟩:∃p,q=p+1:=⟨q-1,ez⟩;have j:p*y1+(r+y1)=R1:=by grind
   let⟨e1,e2⟩:=T (p+1) r ez B A;rw[Nat.add_sub_cancel]at e1 hd;rw[e1,e2];refine⟨λf=>?_,λf=>⟨⟨trivial,_,_,rfl,rfl,j,?_,hd.2,ez⟩,?_⟩⟩;.simp only[v_]at f;have m:=IP (y0:=y0) (u:=R1) (u1:=u0) b1 b0 j (by grind) ez ez;rw[t,hi]at m;rw[m];exact L _ _ last
   .grind
   omega
  have e:¬(4294967296<=q\/4294967296*r+u0<q*y0):=λhh=>by grind
  have m:=IM (y0:=y0) (u:=R1) (u1:=u0) b1 M (by grind) ez;rw[t,hi]at m;rw[m];exact L _ _ last
 simp only[D,em,lo,h,R,i,S,J,I,N,C,aaY];let⟨i1,i2,i3⟩:=O u hu;let⟨n1,n2,n3,n4⟩:=IL (y0:=y0) (u:=u) (u1:=u1) b1 b0 ez c1;rw[t,d]at n3;refine⟨ez,ee,ez,ez,ez,ee,ez,λh6 F=>⟨λq1 a P=>P=H/\∃q r:Nat,q1=q/\a=r/\q*y1+r=u/\r<4294967296/\s<=q/\q<=4294967297,λ_ a _=>4294967296-a.toNat,?_,?_⟩⟩;.rw [i1,i2];exact⟨rfl,_,_,rfl,rfl,n1,i3,n3,n4⟩
 rintro q1 a P ⟨rfl,q,r,rfl,rfl,M,B,V,A⟩;simp only[D,em,lo,h,R,i,S,J,I,N,C];refine⟨λe=>?_,λe=>?_⟩
 .have e:=(cond q r u1 B c1).1 e;have hd:=ach (y0:=y0) (u:=u) (u1:=u1) b1 ez c1 M e;rw[t,d]at hd;obtain⟨p,rfl⟩:∃p,q=p+1:=⟨q-1,ez⟩;have j:p*y1+(r+y1)=u:=by grind
  let⟨e1,e2⟩:=T (p+1) r ez B A;rw[Nat.add_sub_cancel]at e1 hd;rw[e1,e2];refine⟨λf=>?_,λf=>⟨⟨trivial,_,_,rfl,rfl,j,?_,hd.2,ez⟩,?_⟩⟩;.simp only[v_]at f;have m:=IP (y0:=y0) (u:=u) (u1:=u1) b1 b0 j (by grind) ez ez;rw[t,d]at m;rw[m];exact F _ _ E
  .grind
  omega
 have e:¬(4294967296<=q\/4294967296*r+u1<q*y0):=λhh=>by grind
 have m:=IM (y0:=y0) (u:=u) (u1:=u1) b1 M (by grind) ez;rw[t,d]at m;rw[m];exact F _ _ E
theorem Sr{hi lo y:Nat}(m:hi<y)(e:lo<18446744073709551616)(a:y<18446744073709551616) (k:K (.tuple #[.int .u64 (((hi*18446744073709551616+lo)/y:Nat):Int),.int .u64 (((hi*18446744073709551616+lo)%y:Nat):Int)]) H) : CF 464 #[.int .u64 (hi:Nat),.int .u64 (lo:Nat),.int .u64 (y:Nat)] H K:=by
 refine QO λu h=>⟨λf=>?_,λ_=>h _ ?_⟩;.grind
 refine λt c=>⟨λf=>?_,λ_=>c _ ?_⟩;.grind
 by_cases h0:hi=0
 .subst h0;unfold mE.r5;refine⟨λ_=>⟨ez,ez,?_⟩,λf=>?_⟩;.rw [aaY,aiA,QB (Nat.lt_of_le_of_lt (Nat.div_le_self _ _) e)];rw[q2t,CC]at k;exact k
  exfalso;simp at f
 let⟨hs,b,d⟩:=ag6 (y:=y) ez a;let⟨i,n⟩:=ag7 hs m e b;have j:=abS (hi:=hi) (lo:=lo) (s:=64-bitLen y) ez e;refine acT (v:=lo*2^(64-bitLen y)%18446744073709551616) hs b d i (q2g _ ee) h0 ?_ ?_ n (Sq a) ?_;.rw [<-QB b,Int.natCast_mul];simp
 .grind [agI]
 rw [j,Nat.mul_div_mul_right _ _ (q2u _),Nat.mul_mod_mul_right,Nat.mul_div_cancel _ (q2u _)];exact k
theorem J1{c:Int}(t:aG x)(hb:aG v)(u:aG c)(k:K (.tuple #[aB (qn x v c G).1,aB (qn x v c G).2]) H) : CF 441 #[aB x,aB v,aB c,.bool G] H K:=by
 refine QW ?_;unfold qn at k;have s:C4 x<18446744073709551616:=by grind [C4,aG]
 have w:C4 v<18446744073709551616:=by grind [C4,aG]
 refine⟨λa=>?_,λa=>?_⟩;.rw [c_ (by grind)]at k;exact k
 have j:¬c<1:=by grind
 rw[b_ j]at k;obtain⟨cn,rfl⟩:∃cn:Nat,c=cn:=⟨c.toNat,ez⟩;have i:cn<18446744073709551616:=by grind [aG]
 rw[QB i];rw[Fp]at k;refine⟨_,Jy t,_,Jy hb,_,_,Sm s w,?_⟩;have b:C4 x*C4 v/18446744073709551616*18446744073709551616+C4 x*C4 v%18446744073709551616=C4 x*C4 v:=Nat.div_add_mod' _ _;have m:C4 x*C4 v%18446744073709551616<18446744073709551616:=q2g _ ee;generalize C4 x*C4 v/18446744073709551616=hi at *;generalize C4 x*C4 v%18446744073709551616=lo at *;generalize C4 x*C4 v=P at *;refine⟨λe=>?_,λe=>?_⟩;.rw [c_ (by grind)]at k;exact k
 have e:¬cn<=hi:=by grind
 rw[b_ e]at k;refine Sr ez m i ⟨_,_,rfl,?_⟩;rw[b];dsimp only at k;refine⟨λd=>?_,λd=>λy n=>?_⟩;.rw [c_ (by grind)]at k;exact k
 have d:¬9223372036854775808<P/cn:=by grind
 rw[b_ d]at k;have e1:u64.wrap (((P/cn:Nat):Int)+1)=((P/cn+1:Nat):Int):=(show ∀q:Nat,¬9223372036854775808<q->u64.wrap ((q:Int)+1)=((q+1:Nat):Int) from λq h=>by grind [eF]) _ d;have e2:decide (((P%cn:Nat):Int)=0)=decide (P%cn=0):=by grind
 rw[e1,e2];refine⟨λf=>n _ _ ?_,λf=>n _ _ ?_⟩;.rw [c_ f]at k;exact⟨_,_,Jz (Nat.lt_of_le_of_lt (Nat.succ_le_succ (Nat.le_of_not_lt d)) ee),k⟩
 rw [f,b_ Bool.false_ne_true]at k;exact⟨_,_,Jz (Nat.lt_of_le_of_lt (Nat.le_of_not_lt d) ee),k⟩
theorem Ss:bX Tryz.prog 440 #[aB x] H (.bool (decide (ju x))):=by refine cM 440 28 ⟨congrArg Value.bool ?_,rfl⟩;grind
theorem J2{x:Int}(f:aG x)(k:K (.tuple #[aB (XS x v).1,aB (XS x v).2]) H):CF 405 #[aB x,aB v] H K:=by
 refine cM 405 125110962460 ?_;unfold XS at k;refine⟨_,λ_=>Ss,λe=>?_,λe=>?_⟩;.rw [c_ (by grind)]at k;exact k
 have a:¬(x < -4611686018427387904\/4611686018427387904<x\/¬ju v):=by grind
 rw[b_ a]at k;have c:ju v:=by
  rcases Classical.em (ju v) with h|h;.exact h
  exact cS (.inr (.inr h)) a
 have d:¬x < -4611686018427387904/\¬4611686018427387904<x:=⟨λh=>a (.inl h),λh=>a (.inr (.inl h))⟩;unfold ju at c;refine⟨λb=>?_,λb=>?_⟩
 .have h0:0<x:=by grind
  rw[c_ h0]at k;conv=>whnf
  rw[aN (x:=x-1),aN (x:=1000000+v)];exact J1 (by unfold aG;omega) (by unfold aG;omega) (by unfold aG;omega) ⟨_,_,rfl,k⟩
 have h0:¬0<x:=by grind
 rw[b_ h0]at k;conv=>whnf
 rw[aN (x:=1-x),aN (x:=1000000-v)];exact J1 (by unfold aG;omega) (by unfold aG;omega) (by unfold aG;omega) ⟨_,_,rfl,k⟩
theorem St(c:aG x)(k:K (.tuple #[aB (qo x v).1,aB (qo x v).2]) H):CF 406 #[aB x,aB v] H K:=by
 refine cM 406 7452 ?_;unfold qo at k;refine⟨λb=>?_,λb=>?_⟩;.rw [c_ (by grind)]at k;exact k
 have a:¬(x < -4611686018427387904\/4611686018427387904<x):=by grind
 rw[b_ a]at k;have e:i64.wrap (0-x)=-x:=by grind [aN]
 conv=>whnf
 rw[e];exact J2 (by unfold aG;omega) ⟨_,_,rfl,k⟩
structure Gd where
 width:Int
 pr:Int
 most:Int
deriving DecidableEq
variable {g:Gd}
abbrev ve(g:Gd):Value:=.agg #[.int .i64 g.width,.int .i64 g.pr,.int .i64 g.most]
def Gd.ok(g:Gd):Prop:=1<=g.width/\g.width<=1099511627776/\0<=g.pr/\g.pr<=3/\0<=g.most/\g.most<=4611686018427387903
instance (g:Gd):Decidable g.ok:=by unfold Gd.ok;infer_instance
def fY(g:Gd)(t:Int):Int:=
 if g.ok then (if Int.tmod t g.width<0 then i64.wrap (i64.wrap (Int.tdiv t g.width)-1) else i64.wrap (Int.tdiv t g.width)) else 0
def dT(g:Gd)(x:Gp):Int×Int×Int:=
 if g.ok then (if x.ok then (fY g x.lo,fY g x.hi,0) else (0,0,10)) else (0,0,21)
def nG(g:Gd)(x:Gp):Int×Int:=
 if (dT g x).2.2≠0 then (0,(dT g x).2.2) else
 if u64.wrap g.most<xH x then (0,17) else
 if g.pr=0 then ((dT g x).1,0) else
 if g.pr=1 then ((dT g x).2.1,0) else
 if g.pr=2 then (fY g (aeV x),0) else
 if (dT g x).1≠(dT g x).2.1 then (0,17) else ((dT g x).1,0)
structure bT where
 asked:Int
 CV:Int
 hK:Int
 came:Int
deriving DecidableEq
variable {l:List bT}{I:bT}
def bT.z:bT:=⟨0,0,0,0⟩
abbrev fo(s:bT):Xa:=[.int .i64 s.asked,.int .i64 s.CV,.int .i64 s.hK,.int .i64 s.came]
abbrev adn(s:bT):Value:=.agg #[.int .i64 s.asked,.int .i64 s.CV,.int .i64 s.hK,.int .i64 s.came]
theorem lr(s:bT):(fo s).length=4:=rfl
theorem AX(s:bT):cU (fo s)=true:=rfl
abbrev iH(t:Int):Prop:=0<=t/\t<=4611686018427387903
def bT.ok(s:bT):Prop:=iH s.asked/\iH s.CV/\iH s.hK/\iH s.came/\s.asked<=s.came/\s.CV<=s.hK
instance (s:bT):Decidable s.ok:=by unfold bT.ok;infer_instance
def bT.wf(s:bT):Prop:=aG s.asked/\aG s.CV/\aG s.hK/\aG s.came
theorem bT.ok.wf{s:bT}(h:s.ok):s.wf:=by unfold bT.ok iH at h;unfold bT.wf aG;omega
def jv(s:bT)(stamp kl:Int):Gp×Int:=
 if ¬s.ok then (Gp.z,10) else
 if ¬iH stamp\/¬ju kl then (Gp.z,11) else
 let low:=(XS (stamp-s.CV) kl).1
 let high:=(qo (stamp-s.hK) kl).1
 let lo:=if 0>i64.wrap (s.asked+low) then 0 else i64.wrap (s.asked+low)
 let h1:=if (jS s.came high).2≠0 then 4611686018427387903 else (jS s.came high).1
 let hi:=if 4611686018427387903<h1 then 4611686018427387903 else h1
 if hi<lo then (Gp.z,13) else (⟨lo,hi⟩,0)
structure Ck where
 kl:Int
 least:Int
 held:Bool
 streak:Int
 eb:List bT
deriving DecidableEq
variable {C:Ck}
def jw(kl stamp:Int)(s:bT):Gp:=if (jv s stamp kl).2≠0 then ⟨1,0⟩ else (jv s stamp kl).1
def rF(l:List Gp):Bool:=decide (0<l.length)&&decide ((lK l).2=0)
def lL(c:Ck)(s:bT):Ck×Int:=
 if ¬s.ok then (c,10) else
 let l:=if 8<c.eb.length+1 then (c.eb++[s]).drop 1 else c.eb++[s]
 let gs:=l.map (jw c.kl s.hK)
 if rF gs then
  let st:=if c.streak<9223372036854775807 then c.streak+1 else c.streak
  ({ c with streak:=st,held:=if c.least<=st then false else c.held,eb:=l },0)
 else ({ c with held:=true,streak:=0,eb:=if (jw c.kl s.hK s).ok then [s] else [] },21)
def oR(kl stamp:Int):List bT->List Gp×Int
 | []=>([],0)
 | s::r=>if (jv s stamp kl).2≠0 then ([],(jv s stamp kl).2) else ((jv s stamp kl).1::(oR kl stamp r).1,(oR kl stamp r).2)
def Xn(c:Ck)(stamp:Int):Gp×Int:=
 if c.eb=[] then (Gp.z,19) else
 if ¬iH stamp then (Gp.z,11) else
 if (oR c.kl stamp c.eb).2≠0 then (Gp.z,(oR c.kl stamp c.eb).2) else lK (oR c.kl stamp c.eb).1
structure af8(c:Ck):Prop where
 len:c.eb.length<=8
 ok:∀s∈c.eb,s.ok
 st:0<=c.streak/\c.streak<=9223372036854775807
theorem ac0(h:af8 C)(s:bT):af8 (lL C s).1:=by
 unfold lL;split;.exact h
 rename_i hs;have hs:s.ok:=Decidable.not_not.1 hs;have e:∀x∈(if 8<C.eb.length+1 then (C.eb++[s]).drop 1 else C.eb++[s]),x.ok:=by
  intro x a;have:x∈C.eb++[s]:=by grind
  rcases C6.1 this with b|b;.exact h.ok x b
  rw [CT]at b;rw[b];exact hs
 have d:(if 8<C.eb.length+1 then (C.eb++[s]).drop 1 else C.eb++[s]).length<=8:=by have:=h.len;grind
 dsimp only;generalize (if 8<C.eb.length+1 then (C.eb++[s]).drop 1 else C.eb++[s])=l at e d ⊢;by_cases hag:rF (l.map (jw C.kl s.hK))=true;.rw [c_ hag];exact⟨d,e,by have:=h.st;grind⟩
 rw [b_ hag];refine⟨?_,?_,by grind⟩;.grind
 dsimp only;split;.intro x a;rw[CT]at a;rw[a];exact hs
 intro x a;cases a
theorem tF{g:Gp}(h:aA H F)(k:∀a,aA a F->K (.bool (decide g.ok)) a):CF 361 #[kF g] H K:=by refine cM 361 28 (h.al λ_ _ h=>⟨_,SA,⟨_,SA,k _ h.tl⟩⟩)
theorem Su{a b:Gp}(h:aA H F)(k:∀c,aA c F->K (kF (ab7 a b)) c):CF 443 #[kF a,kF b] H K:=by refine cM 443 28 (h.al λ_ _ h=>h.al λ_ _ h=>h.al λ_ _ h=>⟨_,Xx,⟨_,Xx,⟨_,Xx,⟨_,Xx,St3 h λ_ h=>?_⟩⟩⟩⟩);refine⟨_,_,Rs3,k _ h.tl.tl.tl⟩
theorem Sv{s:Gp}{a:KQ}(h:aA H F)(v:∀H,aA H F->aQ H a (flat kE B))(A:B.length<=1000000) (k:∀m,aA m F->K (.tuple #[kF (nF s B).1,aB (nF s B).2]) m) : CF 442 #[kF s,.slice a B.length c,.func (.func 443) #[] #[]] H K:=by
 refine cN 442 0x1215612399251d44dc [[(12,sI)]] (h.al λb _ h=>h.al λb1 _ h=>⟨λi m=>∃(j:Nat) (t:Gp),i=j/\j<=B.length/\nF s B=nF t (B.drop j)/\aA m (ax b1 [aB 0,aB 0] 54::ax b (kE t) 54::F),λi _=>B.length-i.toNat,⟨0,s,rfl,ED _,rfl,h⟩,?_⟩);rintro i D ⟨j,t,rfl,gs,e,h⟩;refine⟨λy=>?_,λy=>?_⟩
 .have f:j<B.length:=by grind
  have u:=v _ h.tl.tl;rw[RC f,nF]at e;refine⟨⟨ez,ez⟩,_,_,u.some xG ez f,_,_,u.E4 xG f,h.al λb3 _ h=>St3 h λ_ h=>?_⟩;refine⟨_,_,Rs3,tF (g:=B[j]) h λw h=>⟨_,rfl,λd=>?_,λd=>?_⟩⟩
  .have:¬(B[j]).ok:=by grind
   rw[b_ this]at e;refine St3 h λ_ h=>?_;refine⟨_,_,Rs3,?_⟩;have:=k _ h.tl.tl.tl;rw[e]at this;exact this
  have:(B[j]).ok:=eu d;rw[c_ this]at e;refine⟨_,_,Rs3,⟨_,_,Rs3,⟨kf,Su (a:=t) (b:=B[j]) h λC h=>⟨_,_,rfl,St3 h λ_ h=>?_⟩⟩⟩⟩;have x:i64.wrap ((j:Int)+1)=((j+1:Nat):Int):=by grind [aN]
  conv=>whnf
  rw[x];exact⟨⟨j+1,_,rfl,f,e,h.tl⟩,by grind⟩
 have n:B.length<=j:=by grind
 rw[List.drop_of_length_le n,nF]at e;refine⟨_,_,He,tF (g:=t) h λw h=>⟨_,rfl,λd=>?_,λd=>?_⟩⟩
 .have:¬t.ok:=by grind
  rw[b_ this]at e;refine Hz h λ_ h=>?_;refine⟨_,_,He,?_⟩;have:=k _ h.tl.tl;rw[e]at this;exact this
 have:t.ok:=eu d;rw[c_ this]at e;repeat (first| refine Hz h λ_ h=>?_| refine⟨_,_,He,?_⟩)
 have:=k _ h.tl.tl;rw[e]at this;exact this
theorem vf{gs:List Gp}(h:aA H F)(d:∀H,aA H F->aQ H a (flat kE gs))(e:gs.length<=1000000) (k:∀b,aA b F->K (.tuple #[kF (lK gs).1,aB (lK gs).2]) b) : CF 408 #[.slice a gs.length c] H K:=by refine cM 408 284 (h.al λ_ _ h=>h.al λ_ _ h=>Hz h λ_ h=>?_);refine⟨_,_,He,Sv (s:=⟨_,_⟩) h (λH h=>d H h.tl.tl) e λb h=>⟨_,_,_,rfl,Hz h λ_ h=>?_⟩⟩;refine⟨_,_,He,k _ h.tl.tl⟩
theorem Sw(h:aA H F)(d:∀H,aA H F->aQ H a (flat kE B))(e:B.length<=1000000) (k:∀b,aA b F->K (.bool (rF B)) b) : CF 360 #[.slice a B.length c] H K:=by refine cM 360 284 (vf h d e λb h=>⟨_,_,_,rfl,h.al λ_ _ h=>SL h λ_ h=>?_⟩);have:=k _ h.tl;unfold rF at this;rw[show decide (0<B.length)=decide (0<(B.length:Int)) by grind]at this;exact this
theorem Sx{g:Gp}(h:aA H F)(k:∀a,aA a F->K (.int .u64 (xH g)) a):CF 447 #[kF g] H K:=by
 refine cM 447 476 (h.al λ_ _ h=>⟨_,_,Rs1,tF (g:=g) h λa h=>⟨_,rfl,λb=>?_,λb=>?_⟩⟩)
 .have:¬g.ok:=by grind
  unfold xH at k;rw[b_ this]at k;exact k _ h.tl
 have:g.ok:=eu b;unfold xH at k;rw[c_ this]at k;refine⟨_,SA,⟨_,SA,k _ h.tl⟩⟩
theorem adE{g:Gp}(h:aA H F)(k:∀a,aA a F->K (aB (aeV g)) a):CF 448 #[kF g] H K:=by
 refine cM 448 476 (h.al λ_ _ h=>⟨_,_,Rs1,tF (g:=g) h λa h=>⟨_,rfl,λb=>?_,λb=>?_⟩⟩)
 .have:¬g.ok:=by grind
  unfold aeV at k;rw[b_ this]at k;exact k _ h.tl
 have:g.ok:=eu b;unfold aeV at k;rw[c_ this]at k;refine⟨_,SA,⟨_,SA,⟨_,SA,⟨_,SA,⟨ee,k _ h.tl⟩⟩⟩⟩⟩
theorem AY(h:aA H F)(k:∀a,aA a F->K (.bool (decide g.ok)) a):CF 383 #[ve g] H K:=by
 refine cM 383 28 ?_;repeat (first| refine h.al λ_ _ h=>?_| refine⟨_,SA,?_⟩| refine⟨_,λ_=>SA,?_⟩)
 have:=k _ h.tl;have e:decide g.ok=((((((decide (1<=g.width))&&(decide (g.width<=1099511627776)))&&(decide (0<=g.pr)))&&(decide (g.pr<=3)))&&(decide (0<=g.most)))&&(decide (g.most<=4611686018427387903))):=by
  rw[q24];simp only[s_,v_];constructor;.intro⟨h1,h2,h3,h4,h5,h6⟩;grind
  intro⟨⟨⟨⟨⟨h1,h2⟩,h3⟩,h4⟩,h5⟩,h6⟩;exact⟨h1,h2,h3,h4,h5,h6⟩
 rw[e]at this;exact this
theorem J3{g:Gd}(h:aA H F)(k:∀a,aA a F->K (.tuple #[ve (if g.ok then g else ⟨0,0,0⟩),aB (if g.ok then 0 else 11)]) a) : CF 310 #[aB g.width,aB g.pr,aB g.most] H K:=by
 refine cM 310 4572 (h.al λ_ _ h=>h.al λ_ _ h=>Hz h λ_ h=>?_);refine⟨_,_,_,He,AY (g:=g) h λa h=>⟨_,rfl,λb=>?_,λb=>?_⟩⟩
 .have:¬g.ok:=by grind
  rw[b_ this,b_ this]at k;refine Hz h λ_ h=>?_;refine⟨_,_,_,He,k _ h.tl.tl⟩
 have:g.ok:=eu b;rw[c_ this,c_ this]at k;repeat (first| refine Hz h λ_ h=>?_| refine⟨_,_,_,He,?_⟩)
 exact k _ h.tl.tl
theorem xI{g:Gd}(h:aA H F)(k:∀b,aA b F->K (aB (fY g x)) b):CF 371 #[ve g,aB x] H K:=by
 refine cN 371 7803597980 [[(5,sI)]] (h.al λ_ _ h=>⟨_,_,_,Rs1,AY (g:=g) h λb h=>⟨_,rfl,λd=>?_,λd=>?_⟩⟩)
 .have:¬g.ok:=by grind
  unfold fY at k;rw[b_ this]at k;exact k _ h.tl
 have e:g.ok:=eu d;unfold fY at k;rw[c_ e]at k;have h0:g.width≠0:=by grind [Gd.ok]
 refine⟨_,h.r 0,h0,_,h.r 0,h0,λf c=>⟨λa=>c _ _ ?_,λa=>c _ _ ?_⟩⟩;.skip;rw[c_ (by grind)]at k;exact k _ h.tl
 skip;rw[b_ (by grind)]at k;exact k _ h.tl
theorem J4{g:Gd}{x:Gp}(h:aA H F)(k:∀a,aA a F->K (.tuple #[aB (dT g x).1,aB (dT g x).2.1,aB (dT g x).2.2]) a) : CF 411 #[ve g,kF x] H K:=by
 refine cM 411 7644 (h.al λ_ _ h=>h.al λ_ _ h=>⟨_,_,_,He,?_⟩);unfold dT at k;refine AY (g:=g) h λa h=>⟨_,rfl,λb=>?_,λb=>?_⟩
 .have:¬g.ok:=by grind
  rw[b_ this]at k;exact k _ h.tl.tl
 have:g.ok:=eu b;rw[c_ this]at k;refine⟨_,_,He,tF (g:=x) h λa h=>⟨_,rfl,λb=>?_,λb=>?_⟩⟩
 .have:¬x.ok:=by grind
  rw[b_ this]at k;exact k _ h.tl.tl
 have:x.ok:=eu b;rw[c_ this]at k;repeat (first| refine⟨_,Xp,?_⟩| refine⟨_,_,_,He,?_⟩)
 refine xI (g:=g) h λa h=>⟨_,rfl,h.r 0,h.q 1,xI (g:=g) h λa h=>⟨_,rfl,k _ h.tl.tl⟩⟩
theorem Sy{g:Gd}{x:Gp}(h:aA H F)(k:∀b,aA b F->K (.tuple #[aB (nG g x).1,aB (nG g x).2]) b) : CF 413 #[ve g,kF x] H K:=by
 refine cM 413 0x11dd21513c13cbdc (h.al λ_ _ h=>h.al λ_ _ h=>⟨_,_,_,He,⟨_,_,He,?_⟩⟩);unfold nG at k;refine J4 (g:=g) (x:=x) h λb h=>⟨_,_,_,rfl,λa=>?_,λa=>?_⟩;.rw [c_ (by grind)]at k;exact k _ h.tl.tl
 rw [b_ (by grind)]at k;repeat (first| refine⟨_,Xp,?_⟩| refine⟨_,_,He,?_⟩)
 refine Sx (g:=x) h λb h=>⟨_,rfl,h.r 1,λa=>?_,λa=>?_⟩;.rw [c_ (by grind)]at k;exact k _ h.tl.tl
 rw [b_ (by grind)]at k;refine⟨_,Xp,⟨λa=>?_,λa=>?_⟩⟩;.rw [c_ (by grind)]at k;exact k _ h.tl.tl
 rw[b_ (by grind)]at k;refine⟨λa=>?_,λa=>?_⟩;.rw [c_ (by grind)]at k;exact k _ h.tl.tl
 rw[b_ (by grind)]at k;refine⟨λa=>?_,λa=>?_⟩;.rw [c_ (by grind)]at k;refine⟨_,_,_,He,⟨_,_,He,adE (g:=x) h λb h=>⟨_,rfl,h.q 1,xI (g:=g) h λb h=>⟨_,rfl,k _ h.tl.tl⟩⟩⟩⟩
 rw[b_ (by grind)]at k;refine⟨λa=>?_,λa=>?_⟩;.rw [c_ (by grind)]at k;exact k _ h.tl.tl
 rw [b_ (by grind)]at k;exact k _ h.tl.tl
def FE(b:Nat)(c:Ck):aF:=F2 λp:KQ×Nat=>ax b [.int .i64 c.kl,.int .i64 c.least,.bool c.held,.int .i64 c.streak,.slice p.1 c.eb.length p.2] 424*ay 279 4 p.1 c.eb.length p.2 (flat fo c.eb)
theorem ie:aA H (FE b C::F)↔∃a k,aA H (ax b [.int .i64 C.kl,.int .i64 C.least,.bool C.held,.int .i64 C.streak,.slice a C.eb.length k] 424::ay 279 4 a C.eb.length k (flat fo C.eb)::F):=by
 unfold FE;rw[cw];constructor;.grind [gZ]
 intro⟨a,k,h⟩;exact⟨(a,k),gZ.2 h⟩
theorem aQ.aed{k sz:Nat}(h:aQ H a r)(s:r.length<=c*sz):aQ H (y_ a k c sz) (r.drop (k*sz)):=by
 intro j v m;have b:aT r (k*sz+j)=Option.some v:=by grind [iE]
 let⟨d,n⟩:=h (k*sz+j) v b;have f:=qf b;have i:c≠k:=by grind
 have e:y_ a k c sz=Option.some ⟨aV a,aS a+k*sz,none⟩:=by unfold y_;rw[nO,d,HR,iF];rfl
 rw[e];refine⟨rfl,?_⟩;grind [aV,aS]
theorem vg:Fk Tryz.prog 311 279 4 32:=fU kf
theorem YI:Fk Tryz.prog 586 54 2 16:=fU kf
theorem ma:bX Tryz.prog 403 #[aB x] H (.bool (decide (iH x))):=by refine cM 403 28 ⟨congrArg Value.bool ?_,rfl⟩;grind
theorem J5:bX Tryz.prog 384 #[aB x] H (.bool (decide (ju x))):=by refine cM 384 28 ⟨congrArg Value.bool ?_,rfl⟩;grind
theorem xJ{s:bT}(h:aA H F)(k:∀a,aA a F->K (.bool (decide s.ok)) a):CF 351 #[adn s] H K:=by
 refine cM 351 28 (h.al λb _ h=>⟨_,h.r 0,_,ma,_,λ_=>h.r 0,_,λ_=>ma,_,λ_=>h.r 0,_,λ_=>ma,_,λ_=>h.r 0,_,λ_=>ma,_,λ_=>h.r 0,_,λ_=>h.r 0,_,λ_=>h.r 0,_,λ_=>h.r 0,?_⟩);have:=k _ h.tl;have e:decide s.ok=(((((decide (iH s.asked)&&decide (iH s.CV))&&decide (iH s.hK))&&decide (iH s.came))&&(decide (s.asked<=s.came)))&&(decide (s.CV<=s.hK))):=by
  rw[q24];simp only[s_,v_];constructor;.intro⟨h1,h2,h3,h4,h5,h6⟩;grind
  intro⟨⟨⟨⟨⟨h1,h2⟩,h3⟩,h4⟩,h5⟩,h6⟩;exact⟨h1,h2,h3,h4,h5,h6⟩
 rw[e]at this;exact this
theorem xK{s:bT}{kl:Int}(h:aA H F)(k:∀b,aA b F->K (.tuple #[kF (jv s v kl).1,aB (jv s v kl).2]) b) : CF 359 #[adn s,aB v,aB kl] H K:=by
 refine Rn (h.al λb0 _ h=>h.al λb1 _ h=>⟨_,_,_,_,h.q 1,?_⟩);unfold jv at k;refine xJ (s:=s) h λb h=>⟨_,rfl,λa=>?_,λa=>?_⟩
 .have:¬s.ok:=by grind
  rw[c_ this]at k;refine Hz h λ_ h=>?_;refine⟨_,_,He,k _ h.tl.tl⟩
 have hs:s.ok:=eu a;rw[b_ (by grind)]at k;have d:=hs.wf;refine⟨_,ma,_,λ_=>J5,λa=>?_,λa=>?_⟩
 .have:¬iH v\/¬ju kl:=by grind
  rw[c_ this]at k;refine Hz h λ_ h=>?_;refine⟨_,_,He,k _ h.tl.tl⟩
 have f:¬(¬iH v\/¬ju kl):=by grind
 rw[b_ f]at k;have c:iH v:=by
  rcases Classical.em (iH v) with h|h;.exact h
  exact cS (.inl h) f
 dsimp only at k;have i:=hs;unfold bT.ok iH at hs;unfold iH at c;refine⟨_,Xp,?_⟩;dsimp only;rw[aN (x:=v-s.CV)];refine J2 (by unfold aG;omega) ⟨_,_,rfl,⟨_,Xp,?_⟩⟩;dsimp only;rw[aN (x:=v-s.hK)];refine St (by unfold aG;omega) ⟨_,_,rfl,⟨_,h.r 1,_,h.r 1,_,_,Jx d.2.2.2 (acz _ _),?_⟩⟩;have last:∀hi:Int,hi=(if (jS s.came (qo (v-s.hK) kl).1).2≠0 then 4611686018427387903 else (jS s.came (qo (v-s.hK) kl).1).1)->AQ.r1 K b1 (XS (v-s.CV) kl).1 s.asked hi b:=by
  intro hi j;rw[<-j]at k;unfold AQ.r1;refine⟨λa=>?_,λa=>?_⟩;.rw [c_ (by grind)]at k;refine Hz h λ_ h=>?_;refine⟨_,_,He,k _ h.tl.tl⟩
  rw [b_ (by grind)]at k;refine Hz h λ_ h=>?_;refine⟨_,_,He,k _ h.tl.tl⟩
 refine λm e=>⟨λa=>e _ _ (last _ ?_),λa=>e _ _ (last _ ?_)⟩;.grind
 grind
theorem J6(h:aA H F)(k1:¬(ju x/\0<=v/\v<=100)->K (.tuple #[.pointer none,aB 11]) H) (k2:ju x/\0<=v/\v<=100->∀b c,aA c (FE b ⟨x,v,false,0,[]⟩::F)->K (.tuple #[.pointer (some ⟨b,0,none⟩),aB 0]) c) : CF 312 #[aB x,aB v] H K:=by
 refine cM 312 476 ⟨_,J5,λa=>k1 ?_,λa=>?_⟩;.grind
 simp only[E7,q2p,v_,DA]at a;have h:=h.cp 279 4;refine h.al λb _ h=>k2 ⟨a.1.1,ez,ez⟩ _ _ (ie.2 ⟨none,0,h⟩)
theorem vh(h:aA H (FE b C::F)):bX Tryz.prog 139 #[.pointer (some ⟨b,0,none⟩)] H (.bool C.held):=by let⟨a,n,h⟩:=ie.1 h;exact cM 139 28 ⟨_,h.r 0,rfl,rfl⟩
theorem Sz(h:aA H (FE b C::F)):bX Tryz.prog 140 #[.pointer (some ⟨b,0,none⟩)] H (aB C.streak):=by let⟨a,n,h⟩:=ie.1 h;exact cM 140 28 ⟨_,h.r 0,rfl,rfl⟩
theorem AZ(h:aA H F)(i:∀H,aA H F->aQ H a (flat fo l))(w:l.length<=1000000) (k:∀f d e,aA e (ay 279 4 f l.length d (flat fo l)::F)->K (.slice f l.length d) e):CF 225 #[.slice a l.length c] H K:=by
 refine cM 225 476 ⟨λv=>?_,λv=>?_⟩
 .have:a=none:=by simp_all
  subst this;have u:=oJ (i H h);have:l=[]:=by have:=congrArg List.length u;rw[dS lr]at this;exact q20 (by grind)
  subst this;exact k none 0 H (h.cp 279 4)
 refine h.al λb _ h=>?_;have t:=i _ h.tl;have n:=aA.EA (cs:=[]) h 4 0 rfl;refine aA.append (m:=l.length) vg n 0 rfl t (dS lr l) (kz AX l) ez ez λf d e s=>⟨_,_,_,rfl,?_⟩;have j:aA e (ay 279 4 f (0+l.length) d ([]++flat fo l)::F):=s;rw[CC,Ha]at j;have:=k f d e j;rw[<-CC l.length]at this;exact this
theorem S0{c:Nat}{j:Nat}(w:j<=l.length)(h:aA H (ay 279 4 a l.length c (flat fo l)::F)) (k:∀b,aA b (ay 279 4 a (l.length-j) c (flat fo (l.drop j))::F)->K (.slice a (l.length-j) c) b):CF 358 #[.slice a l.length c,aB 0,aB j] H K:=by
 have s:=h.CD 0 rfl;refine cM 358 18682140 ⟨⟨ez,ez,ez,ez⟩,λt=>?_,λt=>?_⟩
 .have:j=0:=by grind
  subst this;exact k H h
 have n:0<j:=by grind
 refine⟨⟨ez,ez,ez⟩,⟨ez,ez,ez⟩,?_⟩;have e:=h.a_ 0 rfl;have hs:=e.some lr ez (k:=0) ez;have e0:y_ a 0 c 4=a:=by unfold y_;rw[nO,hs,HR,iF];simp
 have f:=e.aed (k:=j) (c:=c) (sz:=4) (by rw[dS lr];omega);rw[tj lr]at f;have d:=h.GJ 0 rfl 0 ez;simp only[q2t,q26]at d;show cv Tryz.prog (Builtin.append_ #[311,311] 311 #[.slice (y_ a 0 c 4) 0 c,.slice (y_ a j c 4) (l.length-j) (c-j)]) H _;rw[e0];refine aA.GX vg d 0 rfl f (by rw[dS lr,T0]) (kz AX _) ez λb m=>⟨_,_,_,rfl,⟨ez,ez,ez⟩,?_⟩;rw[CC];have i:aA b (ay 279 4 a (0+(l.length-j)) c ([]++flat fo (l.drop j))::F):=m;rw[CC,Ha]at i;exact aA.RW vg kf i 0 rfl ez λ_ v u=>k _ u
theorem Ba(h:aA H (FE b C::F))(i:C.eb.length<=1000000) (k:∀d e f,aA f (ay 279 4 d C.eb.length e (flat fo C.eb)::FE b C::F)->K (.slice d C.eb.length e) f):CF 138 #[.pointer (some ⟨b,0,none⟩)] H K:=by let⟨a,n,h⟩:=ie.1 h;refine cM 138 28 ⟨_,_,_,h.r 0,AZ h (λH h=>h.a_ 1 rfl) i λd e f h=>⟨_,_,_,rfl,k _ _ _ ?_⟩⟩;have h:=h.o [1,2,0] 3;have h:=ie.2 ⟨_,_,h⟩;exact h.o [1,0] 2
theorem S1(h:aA H (FE b C::F))(f:C.eb.length<=1000000) (k:∀e d,aA d (FE e C::FE b C::F)->K (.pointer (some ⟨e,0,none⟩)) d):CF 223 #[.pointer (some ⟨b,0,none⟩)] H K:=by let⟨a,n,h⟩:=ie.1 h;refine cM 223 4380 ⟨_,_,_,_,_,_,_,h.q 0,h.al λ_ _ h=>St3 h λ_ h=>?_⟩;refine⟨_,_,_,h.r 1,AZ h (λH h=>h.a_ 2 rfl) f λi j d h=>⟨_,_,_,rfl,St4 h λ_ h=>k _ _ ?_⟩⟩;have h:=h.o [1,0,2,3] 4;have h:=ie.2 ⟨_,_,h⟩;have h:=h.o [1,2,0] 3;have h:=ie.2 ⟨_,_,h⟩;exact h.o [1,0] 2
theorem S2{held:Bool}{streak:Int}(h:aA H (FE b C::F))(x:∀H,aA H F->aQ H a (flat fo l)) (k1:¬(l.length<=8/\0<=streak/\∀s∈l,s.ok)->∀e,aA e (FE b C::F)->K (aB 10) e) (k2:(l.length<=8/\0<=streak/\∀s∈l,s.ok)->∀e,aA e (FE b ⟨C.kl,C.least,held,streak,l⟩::F)->K (aB 0) e) : CF 388 #[.pointer (some ⟨b,0,none⟩),.bool held,aB streak,.slice a l.length n] H K:=by
 refine cN 388 0x1d215612399251b41c [[(20,sI)]] ⟨λu=>k1 ?_ _ h,λu=>?_⟩;.grind
 have m:l.length<=8/\0<=streak:=by grind
 refine⟨λi e=>∃j:Nat,i=j/\j<=l.length/\(∀s∈l.take j,s.ok)/\aA e (FE b C::F),λi _=>l.length-i.toNat,⟨0,rfl,ED _,λ_ hs=>by simp at hs,h⟩,?_⟩;rintro i G ⟨j,rfl,E,f,h⟩;refine⟨λu=>?_,λu=>?_⟩
 .have d:j<l.length:=by grind
  have w:=x _ h.tl;refine⟨⟨ez,ez⟩,_,_,w.some lr ez d,_,_,_,_,w.E4 lr d,h.al λ_ _ h=>SL h λ_ h=>?_⟩;refine⟨_,_,_,_,Rs1,xJ (s:=l[j]) h λc h=>⟨_,rfl,λk=>?_,λk=>?_⟩⟩
  .have:¬(l[j]).ok:=by grind
   exact k1 (λy=>this (y.2.2 _ (q_ d))) _ h.tl
  have t:(l[j]).ok:=eu k;have A:i64.wrap ((j:Int)+1)=((j+1:Nat):Int):=by grind [aN]
  conv=>whnf
  rw[A];refine⟨⟨j+1,rfl,d,λs hs=>?_,h.tl⟩,by grind⟩;rw[List.take_add_one,List.getElem?_eq_getElem d]at hs;rcases C6.1 hs with hs|hs;.exact f s hs
  simp at hs;rw[hs];exact t
 have v:l.length<=j:=by grind
 rw[FY v]at f;let⟨a0,n0,h⟩:=ie.1 h;refine AZ h (λH h=>x H h.tl.tl) ez λD B e h=>⟨_,_,_,rfl,Hz h λ_ h=>?_⟩;refine Hz h λ_ h=>?_;refine Hz h λ_ h=>k2 ⟨m.1,m.2,f⟩ _ ?_;have h:=h.o [1,0] 3;exact ie.2 ⟨_,_,h⟩
theorem dn{p:Prop}[Decidable p](h:(!decide p)=true):¬p:=by grind
theorem dy{p:Prop}[Decidable p](h:(!decide p)=false):p:=eu h
theorem S3(E:C.eb.length<=8)(h:aA H (FE b C::F))
  (k:∀m,aA m (FE b C::F)->K (.tuple #[kF (Xn C x).1,aB (Xn C x).2]) m) :
  CF 415 #[.pointer (some ⟨b,0,none⟩),aB x] H K:=by
 obtain⟨a,n,h⟩:=ie.1 h;refine cN 415 0x1dd121561239925128d44c [[(9,sA),(10,sI)],[(6,sS),(33,sI)]] ?_;unfold Xn at k;refine h.al λb0 _ h=>⟨_,_,_,h.r 1,λd=>?_,λd=>?_⟩
 .have:C.eb=[]:=by simp_all
  rw[c_ this]at k;refine SL h λ_ h=>?_;refine⟨_,_,Rs1,k _ (ie.2 ⟨_,_,h.tl⟩)⟩
 have B:C.eb≠[]:=by grind
 rw[b_ B]at k;refine⟨_,ma,λd=>?_,λd=>?_⟩
 .have:¬iH x:=dn d;rw[c_ this]at k;refine SL h λ_ h=>?_;refine⟨_,_,Rs1,?_⟩
  exact k _ (ie.2 ⟨_,_,h.tl⟩)
 have w:iH x:=dy d;rw[b_ (not_not_intro w)]at k;refine⟨_,_,_,h.r 1,h.mk0 YI ez ez λu O h=>⟨_,_,_,rfl,_,_,_,h.r 2,⟨λu c v i m=>∃(j:Nat) (gs:List Gp),i=j/\j<=C.eb.length/\c=gs.length/\gs.length=j/\
   oR C.kl x C.eb=(gs++(oR C.kl x (C.eb.drop j)).1,(oR C.kl x (C.eb.drop j)).2)/\
   aA m (ay 54 2 u gs.length v (flat kE gs)::ax b0 [aB 0,aB 0] 54::ax b [aB C.kl,aB C.least,.bool C.held,aB C.streak,.slice a C.eb.length n] 424::ay 279 4 a C.eb.length n (flat fo C.eb)::F),
  λ_ _ _ i _=>C.eb.length-i.toNat,⟨0,[],rfl,ED _,rfl,rfl,rfl,h⟩,?_⟩⟩⟩
 rintro u c v i M ⟨j,gs,rfl,Q,rfl,A,e,h⟩;refine⟨λd=>?_,λd=>?_⟩
 .have f:j<C.eb.length:=by grind
  have D:=h.a_ 3 rfl;rw[RC f,oR]at e;refine⟨⟨ez,ez⟩,_,_,D.some lr ez f,_,_,_,_,D.E4 lr f,?_⟩;refine h.al λ_ _ h=>?_;refine SL h λ_ h=>?_
  refine λG J=>?_
  have fin:∀gb stamp,aA stamp (ax gb (kE (jv C.eb[j] x C.kl).1) 54::ay 54 2 u gs.length v (flat kE gs)::ax b0 [aB 0,aB 0] 54::ax b [aB C.kl,aB C.least,.bool C.held,aB C.streak,.slice a C.eb.length n] 424::ay 279 4 a C.eb.length n (flat fo C.eb)::F)->G gb 0 (jv C.eb[j] x C.kl).2 stamp:=by
   intro gb stamp h;refine J _ _ _ _ ?_;refine⟨λd=>?_,λd=>?_⟩
   .have t:(jv C.eb[j] x C.kl).2≠0:=by grind
    rw[c_ t]at e;rw[e,c_ t]at k;refine St3 h λ_ h=>?_;refine⟨_,_,Rs3,?_⟩
    exact k _ (ie.2 ⟨_,_,h.tl.tl.tl⟩)
   .have t:¬(jv C.eb[j] x C.kl).2≠0:=by grind
    rw[b_ t]at e;refine⟨_,_,h.q 0,?_⟩;rintro b3 _ rfl rfl;refine h.CA YI 1 rfl rfl rfl ez ez λP N m h=>⟨_,_,_,rfl,?_⟩
    have L:i64.wrap ((j:Int)+1)=((j+1:Nat):Int):=by grind [aN]
    conv=>whnf
    rw[L];have h:=h.tl;refine⟨⟨j+1,gs++[(jv C.eb[j] x C.kl).1],rfl,f,eh,by simp[A],?_,?_⟩,by grind⟩
    .grind
    .rw [iX,nv,p_];exact h
  refine⟨_,_,_,_,h.q 0,_,h.r 3,?_,?_⟩
  .refine xK (s:=C.eb[j]) h λm h=>⟨_,_,_,rfl,?_⟩
   refine h.al λ_ _ h=>?_;refine SL h λ_ h=>?_
   exact fin _ _ (h.o [0] 2)
  .refine h.al λb5 _ h=>?_
   refine⟨h.r 4,h.q 1,?_⟩;refine xK (s:=C.eb[j]) h λm h=>⟨_,_,_,rfl,?_⟩
   refine SL h λ_ h=>?_
   exact fin _ _ (h.o [0] 2)
 .have y:C.eb.length<=j:=by grind
  rw[List.drop_of_length_le y,oR,Hx]at e;rw[e,b_ (λI=>I rfl)]at k
  refine vf (gs:=gs) h (λH h=>h.a_ 0 rfl) ez λm h=>⟨_,_,_,rfl,?_⟩
  refine Hz h λ_ h=>?_;refine⟨_,_,He,?_⟩
  exact k _ (ie.2 ⟨_,_,h.tl.tl⟩)
theorem S4(d:B.length=n)(h:aA H F)(e:∀H,aA H F->aQ H a (flat kE B))(f:n<=1000000) (k:∀b,aA b F->K (.bool (rF B)) b) : CF 360 #[.slice a n c] H K:=by subst d;exact Sw h e f k
theorem S5{s:bT}(ok:af8 C)(h:aA H (FE b C::F)) (k:∀m,aA m (FE b (lL C s).1::F)->K (aB (lL C s).2) m) : CF 287 #[.pointer (some ⟨b,0,none⟩),adn s] H K:=by
 let⟨a,n,h⟩:=ie.1 h;have W:=ok.len;have h4:=ok.st;refine Rw ?_;unfold lL at k;refine h.al λb0 _ h=>⟨_,_,_,_,h.q 0,xJ (s:=s) h λm h=>⟨_,rfl,λe=>?_,λe=>?_⟩⟩
 .have:¬s.ok:=by grind
  rw[c_ this]at k;exact k _ (ie.2 ⟨_,_,h.tl⟩)
 have hs:s.ok:=eu e;rw[b_ (by grind)]at k;refine⟨_,_,_,h.r 1,_,_,_,_,h.q 0,?_⟩;intro b1 _ rfl rfl;have A:=(h.push (.cells #[aB s.asked,aB s.CV,aB s.hK,aB s.came] 279 (0,0))).rd 2 rfl 4;refine⟨A,h.CA vg 2 rfl rfl rfl ez ez λa1 c1 H1 h=>⟨_,_,_,rfl,?_⟩⟩;have ef:flat fo C.eb++[aB s.asked,aB s.CV,aB s.hK,aB s.came]=flat fo (C.eb++[s]):=by rw[iX,nv]
 rw[ef]at h;have j2:∀x∈(if 8<C.eb.length+1 then (C.eb++[s]).drop 1 else C.eb++[s]),x.ok:=by
  intro x hx;have:x∈C.eb++[s]:=by grind
  rcases C6.1 this with M|M;.exact ok.ok x M
  rw [CT]at M;rw[M];exact hs
 have rest:∀(l:List bT) (a2:KQ) (c2:Nat) (S:aC),l.length<=8->l.getLast?=some s->(∀m,aA m (FE b (if rF (l.map (jw C.kl s.hK)) then ({ C with streak:=if C.streak<9223372036854775807 then C.streak+1 else C.streak,held:=if C.least<=(if C.streak<9223372036854775807 then C.streak+1 else C.streak) then false else C.held,eb:=l },(0:Int)) else ({ C with held:=true,streak:=0,eb:=if (jw C.kl s.hK s).ok then [s] else [] },21)).1::F)->K (aB (if rF (l.map (jw C.kl s.hK)) then ({ C with streak:=if C.streak<9223372036854775807 then C.streak+1 else C.streak,held:=if C.least<=(if C.streak<9223372036854775807 then C.streak+1 else C.streak) then false else C.held,eb:=l },(0:Int)) else ({ C with held:=true,streak:=0,eb:=if (jw C.kl s.hK s).ok then [s] else [] },21)).2) m)->aA S (ax b0 [aB s.asked,aB s.CV,aB s.hK,aB s.came] 279::ax b [aB C.kl,aB C.least,.bool C.held,aB C.streak,.slice a2 l.length c2] 424::ay 279 4 a2 l.length c2 (flat fo l)::F)->AR.r7 b 0 K b0 S:=by
  intro l a2 c2 S W O k h;unfold AR.r7;refine⟨_,_,_,h.r 1,h.mk0 YI ez ez λD H6 h=>⟨_,_,_,rfl,_,_,_,h.r 2,⟨λD gn I i m=>∃(j:Nat),i=j/\j<=l.length/\j=gn/\ aA m (ay 54 2 D j I (flat kE ((l.take j).map (jw C.kl s.hK)))::ax b0 [aB s.asked,aB s.CV,aB s.hK,aB s.came] 279::ax b [aB C.kl,aB C.least,.bool C.held,aB C.streak,.slice a2 l.length c2] 424::ay 279 4 a2 l.length c2 (flat fo l)::F),λ_ _ _ i _=>l.length-i.toNat,⟨0,rfl,ED _,rfl,h⟩,?_⟩⟩⟩;rintro D gn I i H7 ⟨j,rfl,hj,rfl,h⟩;refine⟨λe=>?_,λe=>?_⟩
  .have f:j<l.length:=by grind
   have L:=h.a_ 3 rfl;refine⟨⟨ez,ez⟩,_,_,L.some lr ez f,_,_,_,_,L.E4 lr f,h.al λ_ _ h=>SL h λ_ h=>λJn N=>?_⟩;have fin:∀gb B,aA B (ax gb (kE (jv l[j] s.hK C.kl).1) 54::ay 54 2 D j I (flat kE ((l.take j).map (jw C.kl s.hK)))::ax b0 [aB s.asked,aB s.CV,aB s.hK,aB s.came] 279::ax b [aB C.kl,aB C.least,.bool C.held,aB C.streak,.slice a2 l.length c2] 424::ay 279 4 a2 l.length c2 (flat fo l)::F)->Jn gb 0 (jv l[j] s.hK C.kl).2 B:=by
    intro gb B h;refine N _ _ _ _ λP Q=>?_;have w:∀y,aA y (ax gb (kE (jw C.kl s.hK l[j])) 54::ay 54 2 D j I (flat kE ((l.take j).map (jw C.kl s.hK)))::ax b0 [aB s.asked,aB s.CV,aB s.hK,aB s.came] 279::ax b [aB C.kl,aB C.least,.bool C.held,aB C.streak,.slice a2 l.length c2] 424::ay 279 4 a2 l.length c2 (flat fo l)::F)->P y:=by
     intro y h;refine Q _ ⟨_,_,h.q 0,?_⟩;intro b4 _ rfl rfl;refine h.CA YI 1 rfl rfl rfl ez ez λa' c' m h=>⟨_,_,_,rfl,?_⟩;have T:i64.wrap ((j:Int)+1)=((j+1:Nat):Int):=by grind [aN]
     rw[T];have h:=h.tl;refine⟨⟨j+1,rfl,f,rfl,?_⟩,by grind⟩;rw[List.take_add_one,List.getElem?_eq_getElem f,FW,iX];rw[Option.toList_some,List.map_singleton,nv];exact h
    refine⟨λe=>?_,λe=>?_⟩
    .have he:(jv l[j] s.hK C.kl).2≠0:=by grind
     have Y:jw C.kl s.hK l[j]=⟨1,0⟩:=by unfold jw;grind
     refine SL h λ_ h=>w _ ?_;rw[Y];exact h
    have he:¬(jv l[j] s.hK C.kl).2≠0:=by grind
    have Y:jw C.kl s.hK l[j]=(jv l[j] s.hK C.kl).1:=by unfold jw;grind
    refine w _ ?_;rw[Y];exact h
   refine⟨_,_,_,_,h.q 0,_,h.r 2,_,h.r 3,?_,?_⟩;.refine xK (s:=l[j]) h λm h=>⟨_,_,_,rfl,h.al λ_ _ h=>SL h λ_ h=>?_⟩;exact fin _ _ (h.o [0] 2)
   refine h.al λb5 _ h=>⟨h.r 4,h.r 3,h.q 1,xK (s:=l[j]) h λm h=>⟨_,_,_,rfl,SL h λ_ h=>?_⟩⟩;exact fin _ _ (h.o [0] 2)
  have l5:l.length<=j:=by grind
  obtain rfl:j=l.length:=ez;rw[FY (w_ _)]at h;have d:(l.map (jw C.kl s.hK)).length=l.length:=FX _;have h8:0<l.length:=by grind
  have U:l[l.length-1]=s:=by grind
  refine S4 d h (λH h=>h.a_ 0 rfl) ez λh7 h=>⟨_,rfl,λG=>?_,λG=>?_⟩
  .rw [c_ G]at k;refine⟨_,h.r 2,λR Z=>?_⟩;have v:∀(st:Int) c,st=(if C.streak<9223372036854775807 then C.streak+1 else C.streak)->aA c (ay 54 2 D l.length I (flat kE (l.map (jw C.kl s.hK)))::ax b0 [aB s.asked,aB s.CV,aB s.hK,aB s.came] 279::ax b [aB C.kl,aB C.least,.bool C.held,aB st,.slice a2 l.length c2] 424::ay 279 4 a2 l.length c2 (flat fo l)::F)->R c:=by
    intro st c V h;refine Z _ ?_;rw[<-V]at k;refine⟨_,h.r 2,_,h.r 2,λl6 E=>⟨λe=>?_,λe=>?_⟩⟩;.rw [c_ (by grind)]at k;refine h.st 2 rfl rfl λr0 h=>E _ (k _ (ie.2 ⟨_,_,h.tl.tl⟩))
    rw [b_ (by grind)]at k;exact E _ (k _ (ie.2 ⟨_,_,h.tl.tl⟩))
   refine⟨λe=>?_,λe=>?_⟩
   .have f:C.streak<9223372036854775807:=by grind
    refine⟨_,h.r 2,h.st 2 rfl rfl λl0 h=>v _ _ ?_ h⟩;rw[c_ f,aN]
   have f:¬C.streak<9223372036854775807:=by grind
   exact v _ _ (by grind) h
  rw [b_ (by grind)]at k;refine h.st 2 rfl rfl λh6 h=>h.st 2 rfl rfl λh3 h=>h.st 2 rfl rfl λr8 h=>?_;have T:i64.wrap ((l.length:Int)-1)=((l.length-1:Nat):Int):=by grind [aN]
  rw[T];have L:=h.a_ 0 rfl;have u:=L.E4 xG (k:=l.length-1) ez;rw[q2h,U]at u;refine⟨⟨ez,ez⟩,_,_,L.some xG ez (k:=l.length-1) ez,_,_,u,tF (g:=jw C.kl s.hK s) h λh2 h=>⟨_,rfl,λj3 J=>⟨λe=>?_,λe=>?_⟩⟩⟩;.rw [c_ (eu e)]at k;refine⟨_,_,_,_,h.q 1,h.al λb8 _ h=>h.st 3 rfl rfl λh0 h=>J _ ?_⟩;have h:=h.o [0,3] 5;have h:=aA.EA h 4 1 rfl;have h:=h.o [1,0] 2;exact k _ (ie.2 ⟨_,_,h⟩)
  rw [b_ (by grind)]at k;refine J _ ?_;have h:=h.o [2] 4;have h:=(h.cp 279 4).o [1,0] 2;exact k _ (ie.2 ⟨_,_,h⟩)
 refine h.st 1 rfl rfl λH2 h=>?_;have t:(C.eb++[s]).getLast?=some s:=eh;refine⟨_,_,_,h.r 1,λJn N=>⟨λe=>?_,λe=>?_⟩⟩
 .have h9:8<C.eb.length+1:=by grind
  rw[c_ h9]at k;refine⟨_,_,_,h.r 1,?_⟩;have h:=h.o [2,0,1] 3;have d:C.eb.length+1=(C.eb++[s]).length:=eh;rw[d]at h ⊢;refine S0 (j:=1) eh h λj1 h=>⟨_,_,_,rfl,h.st 2 rfl rfl λh5 h=>N _ ?_⟩;have h:=h.o [1,2,0] 3;have hd:(C.eb++[s]).length-1=((C.eb++[s]).drop 1).length:=eh;rw[hd]at h;refine rest _ _ _ _ (by simp;omega) ?_ k h;grind
 have h9:¬8<C.eb.length+1:=by grind
 rw[b_ h9]at k;refine N _ ?_;have d:C.eb.length+1=(C.eb++[s]).length:=eh;rw[d]at h;exact rest _ _ _ _ (by simp;omega) t k h
structure bO where
 name:Fb
 value:Fb
abbrev cJ(l:bO):Xa:=[.string l.name,.string l.value]
theorem iI(l:bO):(cJ l).length=2:=rfl
theorem xL(l:bO):cU (cJ l)=true:=rfl
structure Ev where
 stamp:Int
 value:Int
 name:Fb
 labs:List bO
 la:KQ
 lc:Nat
variable {E:cF Ev}
def Ev.z:Ev:=⟨0,0,⟨#[]⟩,[],none,0⟩
abbrev bH(e:Ev):Xa:=[aB e.stamp,aB e.value,.string e.name,.slice e.la e.labs.length e.lc]
abbrev LB(e:Ev):Value:=.agg #[aB e.stamp,aB e.value,.string e.name,.slice e.la e.labs.length e.lc]
theorem dU(e:Ev):(bH e).length=4:=rfl
theorem xM(e:Ev):cU (bH e)=true:=rfl
theorem QE:Fk Tryz.prog 97 69 4 56:=fU kf
theorem aem:Fk Tryz.prog 60 223 2 32:=fU kf
theorem rG:jB Tryz.prog 426 2 69 LB Ev.z:=ny Tryz.underlying426 kf
theorem Fh:lH Tryz.prog 2 aB:=xb Tryz.underlying2
abbrev CB(hb mb:Nat)(next most:Int):aF:=ax hb [aB next,aB most,.map (some mb)] 428
abbrev iJ(mb:Nat)(l:cF Ev):aF:=mapA aB LB mb l
theorem S6(h:aA H F) (k1:x<0\/1099511627776<x\/v<1\/256<v->K (.tuple #[.pointer none,aB 11]) H) (k2:∀hb mb b,0<=x/\x<=1099511627776/\1<=v/\v<=256->aA b (CB hb mb x v::iJ mb []::F)->K (.tuple #[PA hb 0,aB 0]) b) : CF 315 #[aB x,aB v] H K:=by
 refine cM 315 476 ⟨λa=>k1 ?_,λa=>?_⟩;.grind
 simp only[E7,DA]at a;refine h.X_ aB LB λmb _ h=>h.al λhb _ h=>k2 _ _ _ ez h
theorem S7(h:aA H F)(i:Nat)(a:aX i F=CB c b x v):bX Tryz.prog 144 #[PA c 0] H (aB x):=cM 144 28 ⟨_,h.rd i a _,rfl,rfl⟩
theorem S8{s:HS Ev}{first:Int}{ic:Nat}{items:List Ev}(h:aA H (CB c b s.next s.most::iJ b s.rows::F))(ok:s.Ok)(hn:s.next<=1125899906842624) (hF:∀H,aA H F->aQ H a (flat bH items)) (h3:items.length<=1000000) (k:∀ia hb J,aA J (ay 69 4 ia (s.offer first items).2.1.length hb (flat bH (s.offer first items).2.1)::CB c b (s.offer first items).1.next s.most::iJ b (s.offer first items).1.rows::F)->K (.tuple #[.slice ia (s.offer first items).2.1.length hb,aB (s.offer first items).2.2]) J) : CF 364 #[PA c 0,aB first,.slice a items.length ic] H K:=by
 refine Rm ?_;have h5:=ok.N_;have j1:=ok.GR;have h8:=ok.GQ;refine⟨λV=>?_,λV=>?_⟩
 .simp only[HT,v_]at V;have e:s.offer first items=(s,[],(items.length:Int)):=by unfold HS.offer;grind
  rw[e]at k;exact k none 0 H (h.cp 69 4)
 simp only[E7,DA]at V;have e:s.offer first items=({ s with next:=(pop s.next (fx s.next s.most first items (s.rows,0)).1).2.1,rows:=(pop s.next (fx s.next s.most first items (s.rows,0)).1).2.2 },(pop s.next (fx s.next s.most first items (s.rows,0)).1).1,(fx s.next s.most first items (s.rows,0)).2):=by unfold HS.offer;grind
 rw[e]at k;refine⟨λmb R J=>∃(j:Nat) (rows:cF Ev),R=j/\j<=items.length/\ky s.next s.next s.most rows/\0<=mb/\mb<=j/\ fx s.next s.most (first+j) (items.drop j) (rows,mb)=fx s.next s.most first items (s.rows,0)/\aA J (CB c b s.next s.most::iJ b rows::F),λ_ i _=>items.length-i.toNat,⟨0,s.rows,rfl,ED _,ok.rows.weaken ez (F6 _),F6 _,eh,eh,h⟩,?_⟩;rintro mb R H1 ⟨j,rows,rfl,hj,u,h1,h6,y,h⟩;refine⟨λT=>?_,λT=>?_⟩
 .have C:j<items.length:=by grind
  have DF:=hF H1 h.tl.tl;have e1:i64.wrap (first+j)=first+j:=aN;have e2:i64.wrap (s.next+s.most)=s.next+s.most:=aN;have e3:i64.wrap ((j:Int)+1)=((j+1:Nat):Int):=aN;have e4:i64.wrap (mb+1)=mb+1:=aN;have E:items.drop j=items[j]::items.drop (j+1):=RC C;rw[E,fx]at y;have S:=I9 (n:=first+j) (v:=items[j]) (s:=(rows,mb)) u;have j2:=Qn (next:=s.next) (most:=s.most) (n:=first+j) (v:=items[j]) (s:=(rows,mb)) h1;rw[e1];refine⟨⟨ez,ez⟩,_,_,DF.some dU ez C,_,_,_,_,_,_,DF.E4 dU C,h.al λ_ _ h=>SL h λ_ h=>?_⟩;have d:∀Q (A B M:aF),M=iJ b (eM s.next s.most (first+j) items[j] (rows,mb)).1->aA Q (A::B::CB c b s.next s.most::M::F)->∃(O:Nat) (rows':cF Ev),((j+1:Nat):Int)=O/\O<=items.length/\ky s.next s.next s.most rows'/\0<=(eM s.next s.most (first+j) items[j] (rows,mb)).2/\(eM s.next s.most (first+j) items[j] (rows,mb)).2<=O/\ fx s.next s.most (first+O) (items.drop O) (rows',(eM s.next s.most (first+j) items[j] (rows,mb)).2)=fx s.next s.most first items (s.rows,0)/\aA Q (CB c b s.next s.most::iJ b rows'::F):=λQ _ _ _ hM h2=>⟨j+1,_,rfl,C,S,by grind,by grind,by grind,by rw[<-hM];exact h2.tl.tl⟩;refine⟨_,h.r 1,?_⟩;have W:=h.x_ rG Fh 2 rfl (x:=first+j);refine⟨_,_,_,_,_,_,_,W,?_⟩;repeat (first| refine h.al λ_ _ h=>?_| refine⟨_,Xx,?_⟩| refine St3 h λ_ h=>?_)
  refine λJn hJ=>⟨λf=>hJ _ _ ?_,λf=>?_⟩
  .have N:eM s.next s.most (first+j) items[j] (rows,mb)=(rows,mb):=by unfold eM;grind
   rw[N]at d;rw[e3];exact⟨d _ _ _ _ rfl h,by grind⟩
  simp only[E7,DA]at f;have hl:aK (first+j) rows=none:=by simp_all
  refine⟨_,Xx,⟨_,Xx,?_⟩⟩;dsimp only;rw[e2,e4];refine λh9 L=>⟨λG=>L _ _ ?_,λG=>?_⟩
  .simp only[v_]at G;have N:eM s.next s.most (first+j) items[j] (rows,mb)=(rows,mb+1):=by unfold eM;grind
   rw[N]at d;refine hJ _ _ ?_;rw[e3];exact⟨d _ _ _ _ rfl h,by grind⟩
  simp only[DA]at G;have N:eM s.next s.most (first+j) items[j] (rows,mb)=(ins (first+j) items[j] rows,mb):=by unfold eM;grind
  rw[N]at d;refine⟨_,Xx,⟨_,_,_,_,_,_,Rs3,h.ji (x:=first+j) (v:=items[j]) rG Fh 3 rfl λQ h2=>L _ _ (hJ _ _ ?_)⟩⟩;have ep:iJ b (eS (first+j) items[j] rows)=iJ b (ins (first+j) items[j] rows):=oH (by rw[eS,lG hl];exact (Aw _ _ _).symm);rw[e3];exact⟨d _ _ _ _ ep h2,by grind⟩
 have I:j=items.length:=by grind
 subst I;simp only[TS,fx]at y;rw[<-y]at k;simp only at k;have h7:=Ay u.rising λp P=>(u.inb p P).1;have h0:=u.length;refine⟨λU rn rc rf J=>∃(CV:List Ev) (next:Int) (rows':cF Ev),rn=CV.length/\rf=mb/\gY rows'/\(∀p∈rows',next<=p.1)/\(pop s.next rows).1=CV++(pop next rows').1/\(pop s.next rows).2=(pop next rows').2/\ 0<=next/\next+rows'.length<=s.next+rows.length/\CV.length+rows'.length=rows.length/\aA J (ay 69 4 U rn rc (flat bH CV)::CB c b next s.most::iJ b rows'::F),λ_ n _ _ _=>rows.length-n,⟨[],s.next,rows,rfl,rfl,u.rising,λp P=>(u.inb p P).1,eh,eh,ez,ez,eh,h.cp 69 4⟩,?_⟩;rintro U rn rc rf Q ⟨CV,next,rows',rfl,rfl,D,I,w,t,h4,Z,Y,h⟩;refine⟨_,h.r 1,_,h.r 1,?_⟩;have m:=Qo (next:=next) D I;have e5:i64.wrap (next+1)=next+1:=aN;refine⟨_,_,_,_,_,_,_,h.x_ rG Fh 2 rfl (x:=next),h.al λb3 _ h=>⟨h.x_ rG Fh 3 rfl (x:=next),h.r 2,h.r 2,h.st 0 rfl rfl λH3 h=>?_⟩⟩;cases rows' with
  | nil=>simp only at m;refine⟨λ_=>?_,λf=>by simp[m]at f⟩;simp only[pop,Hx]at w t;rw[w,t]at k;exact k _ _ _ h.tl
  | cons p r=>
  let⟨n,v⟩:=p;simp only at m;by_cases en:n=next
  .subst en;rw[c_ rfl]at m;rw[m]at h ⊢;refine⟨λf=>by simp at f,λ_=>⟨_,h.r 2,_,h.r 2,h.DL (x:=n) rG Fh 3 rfl λH3 h=>?_⟩⟩;have h:aA H3 (ax b3 (bH v) 69::ay 69 4 U CV.length rc (flat bH CV)::CB c b n s.most::iJ b (bF n ((n,v)::r))::F):=h;rw[Qp D]at h;simp only[CU]at Z Y;refine⟨_,_,_,_,_,_,h.q 0,?_⟩;intro b4 _ rfl rfl;refine h.CA QE 1 rfl rfl rfl ez ez λa' c' H4 h=>⟨_,_,_,rfl,⟨_,h.r 2,h.st 2 rfl rfl λH5 h=>⟨?_,by grind⟩⟩⟩;rw[e5]at h;simp only[pop,if_true]at w t;refine⟨CV++[v],n+1,r,eh,rfl,(YL.1 D).2,λp P=>?_,by grind,t,ez,ez,by simp;omega,?_⟩;.have:=(YL.1 D).1 p P;grind
   rw [iX,nv];exact h.tl
  rw [b_ en]at m;refine⟨λ_=>?_,λf=>by simp[m]at f⟩;simp only[pop,b_ en,Hx]at w t;rw[w,t]at k;exact k _ _ _ h.tl
theorem J7(h:aA H (CB n c v x::iJ c E::F))(f:gY E)(i:∀p∈E,aG p.1)(m:E.length<=1000000) (k:∀a mb b,aA b (ay 2 1 a E.length mb ((aJ E).map aB)::CB n c v x::iJ c E::F)->K (.slice a E.length mb) b) : CF 141 #[PA n 0] H K:=by refine cM 141 28 ⟨_,h.r 0,RZ ⟨_,_,rfl,Sa h 1 rfl (λmost e=>by obtain⟨p,j,rfl⟩:=zb.1 e;exact i p j) ez λa mb b d g=>⟨_,_,_,rfl,?_⟩⟩⟩;rw[Qq f]at d;exact k a mb b d
theorem S9{most:Int}(h:aA H (CB c b v most::iJ b E::F))(s:gY E)(y:∀p∈E,aG p.1)(u:E.length<=1000000) (k:∀a hb e,aA e (ay 69 4 a E.length hb (flat bH (E.map (·.2)))::CB c b v most::iJ b []::F)->K (.slice a E.length hb) e) : CF 143 #[PA c 0] H K:=by
 refine cN 143 0x11215612399251441c [[(3,sS),(9,sI)]] (J7 h s y u λt rc C h=>⟨_,_,_,rfl,⟨λla n lc i e=>∃k:Nat,i=k/\k=n/\k<=E.length/\aA e (ay 69 4 la k lc (flat bH ((E.take k).map (·.2)))::ay 2 1 t E.length rc ((aJ E).map aB)::CB c b v most::iJ b E::F),λ_ _ _ i _=>E.length-i.toNat,⟨0,rfl,rfl,ED _,h.cp 69 4⟩,?_⟩⟩);rintro la n lc i B ⟨j,rfl,rfl,rows,h⟩;refine⟨λw=>?_,λw=>?_⟩
 .have mb:j<E.length:=by grind
  have d:j<(aJ E).length:=by grind
  have DF:=(h.a_ 1 rfl).at (j:=j) d;have e3:i64.wrap ((j:Int)+1)=((j+1:Nat):Int):=aN;have f:aK (aJ E)[j] E=some E[j].2:=oG (Ql s) (by grind);have m:=h.B_ rG Fh 3 rfl (x:=(aJ E)[j]);rw[f]at m;refine⟨⟨ez,ez⟩,_,_,DF.1,_,DF.2,_,h.r 2,_,_,_,_,_,_,m,?_⟩;intro b1 _ rfl rfl;refine h.CA QE 0 rfl rfl rfl ez ez λD A next h=>⟨_,_,_,rfl,?_⟩;conv=>whnf
  rw[e3];refine⟨⟨j+1,rfl,rfl,mb,?_⟩,by grind⟩;rw[q1c mb,FW,iX];exact h
 have:j=E.length:=by grind
 subst this;refine⟨_,h.r 2,h.abZ rG 3 rfl λnext h=>?_⟩;rw[FY (w_ _)]at h;exact k _ _ _ (h.o [0,2,3] 4)
theorem SB(h:aA H (CB n c x v::iJ c E::F)) (k:∀mb a d,aA d (CB mb a x v::iJ a E::CB n c x v::iJ c E::F)->K (PA mb 0) d) : CF 142 #[PA n 0] H K:=by refine cM 142 28 ⟨_,h.r 0,_,h.r 0,_,h.r 0,Sb h 1 rfl λe h _=>⟨_,rfl,h.r 1,h.r 1,h.al λb _ h=>k _ _ _ h⟩⟩
theorem xN(k:IntKind)(f:Nat->Int):∀n i,(cq k f n i).length=n
 | 0,_=>rfl
 | n+1,i=>by simp[cq,xN k f n]
theorem vi(k:IntKind)(f:Nat->Int):∀n i j,j<n->aT (cq k f n i) j=some (.int k (f (i+j)))
 | n+1,i,0,_=>rfl
 | n+1,i,j+1,h=>by have:=vi k f n (i+1) j ez;simp only[cq,aT];rw[this,show i+1+j=i+(j+1) by omega]
theorem J8(k:IntKind)(f:Nat->Int):∀n i,cU (cq k f n i)=true
 | 0,_=>rfl
 | n+1,i=>by have:=J8 k f n (i+1);simpa[cq,cU] using this
def fO(f:Nat->Int)(j:Nat)(x:Int):Nat->Int:=λi=>if i=j then x else f i
theorem J9(k:IntKind){f g:Nat->Int}:∀n i,(∀j,i<=j->j<i+n->f j=g j)->cq k f n i=cq k g n i
 | 0,_,_=>rfl
 | n+1,i,h=>by simp only[cq];rw[h i (w_ _) ez,J9 k n (i+1) λj a b=>h j ez ez]
theorem Bb(k:IntKind)(f:Nat->Int)(x:Int):∀n i j,j<n->(cq k f n i).set j (.int k x)=cq k (fO f (i+j) x) n i
 | n+1,i,0,_=>by simp only[cq,q37,q28];grind [fO,J9]
 | n+1,i,j+1,h=>by simp only[cq,List.set_cons_succ];rw[Bb k f x n (i+1) j ez,show i+1+j=i+(j+1) by omega];rw[show fO f (i+(j+1)) x i=f i by simp[fO]]
theorem aA.u_(h:aA H F)(i:Nat)(c:aX i F=ax b r n):bE H b 0 r:=uJ λf v a=>by rw[h.rd i c,CC];exact a
theorem aA.rdv{l vs:Xa}(h:aA H F)(i:Nat)(d:aX i F=ax b (l++vs++r) n)(o:c=l.length):bE H b c vs:=uJ λf v a=>by subst o;rw[h.rd i d,Fv,A0,IC (qf a)];exact a
theorem aA.rdt{l vs:Xa}(h:aA H F)(i:Nat)(o:aX i F=ax b (l++vs) n)(a:c=l.length):bE H b c vs:=aA.rdv (r:=[]) h i (by rw[o,Hx]) a
theorem aA.zy{Q:aC->Prop}{cs:Xa}(h:aA H F)(i:Nat)(c:aX i F=ax b cs n)(d:r.length=cs.length)(k:∀a,aA a (put i (ax b r n) F)->Q a) : eA H b 0 r/\∀a,a=fw H b 0 r->Q a:=by refine⟨h.can i c 0 r ez,?_⟩;intro a rfl;have:=h.set i c 0 r;rw[xg _ _ d]at this;exact k _ this
theorem SE{t e:TypeId}(c:P.underlying t=some (.array n e))(d:∀w,(Go.sizeOf e).run P w=.ok 1 w)(b:∀w,(Go.isAgg e).run P w=.ok false w)(h0:0<=x)(h:x<n) : ne P (Instr.index t (.agg ⟨cq .i64 f n 0⟩) (aB x)) (aB (f x.toNat)):=by intro w;have a:=vi .i64 f n 0 x.toNat ez;rw[iE]at a;simp only[Instr.index,asIntOf,Sem.run_bind,Sem.run_pure,Result.andThen_ok,fD c];rw[c_ ⟨h0,h⟩];simp only[Sem.run_bind,d,Result.andThen_ok,q25,part,b];simp[a]
abbrev FN:Int:=18446744073709551616
abbrev C3(z:Int):Int:=z/FN
abbrev C5(z:Int):Int:=z%FN
abbrev lM(z:Int):Value:=.agg #[aB (C3 z),.int .u64 (C5 z)]
abbrev gq(z:Int):Prop:=-170141183460469231731687303715884105728<=z/\z<170141183460469231731687303715884105728
def ig(a b:Int):Int×Int:=if gq (a+b) then (a+b,0) else (0,12)
theorem qp(z:Int):0<=C5 z/\C5 z<FN:=by grind
theorem wz(z:Int):C3 z*FN+C5 z=z:=by grind
def cy(v:Int):Int:=if v<0 then 0 else if v=0 then 1 else 1+(bitLen v.toNat:Nat)
theorem qq(h:aG v):0<=cy v/\cy v<65:=by
 unfold cy aG at *;split;.omega
 split;.omega
 have:bitLen v.toNat<=63:=by
  unfold bitLen;split;.omega
  rename_i h0;have:=(Nat.log2_lt h0).2 (show v.toNat<2^63 by omega);omega
 omega
def pB(h:Nat->Int):Bool:=(List.range 65).all λi=>decide (0<=h i)
theorem rH:pB f=true↔∀i,i<65->0<=f i:=by grind [pB]
def jD(h:Nat->Int)(v:Int):(Nat->Int)×Int:=
 if pB h=false then (Z0,10) else if h (cy v).toNat=9223372036854775807 then (Z0,12) else (fO h (cy v).toNat (h (cy v).toNat+1),0)
def wfH(h:Nat->Int):Prop:=∀i,i<65->aG (h i)
theorem vj:wfH Z0:=λ_ _=>by unfold aG;simp
theorem JA(a:0<=x)(b:0<=v):sG Tryz.prog 422 #[.int .u64 x,.int .u64 v,.int .u64 0] (.tuple #[.int .u64 ((x+v)%FN),.int .u64 ((x+v)/FN)]):=by have e:(callFunc 422 #[.int .u64 x,.int .u64 v,.int .u64 0])=(callFunc 422 #[.int .u64 x,.int .u64 v,.int .u64 0]):=rfl;intro w;have h:(callFunc 422 #[.int .u64 x,.int .u64 v,.int .u64 0]).run Tryz.prog w=.ok (.value (.tuple #[.int .u64 (Int.ofNat ((x.toNat+v.toNat+0)%18446744073709551616)),.int .u64 (Int.ofNat ((x.toNat+v.toNat+0)/18446744073709551616))])) w:=kf;grind
theorem acx(h0:0<=x)(a:x<65):ne Tryz.prog (Instr.index 179 (.agg ⟨cq .i64 f 65 0⟩) (aB x)) (aB (f x.toNat)):=SE (n:=65) Tryz.underlying179 Tryz.sizeOf2 Tryz.isAgg2 h0 ez
theorem SG(h:aA H F)(k:∀c,aA c F->K (.bool (pB f)) c):CF 480 #[.agg ⟨cq .i64 f 65 0⟩] H K:=by
 refine cN 480 0x1215612399251b4c [[(6,sI)]] (h.al λb _ h=>⟨f,h.u_ 0 rfl,⟨λi c=>∃j:Nat,i=j/\j<=65/\(∀q,q<j->0<=f q)/\aA c F,λi _=>65-i.toNat,⟨0,rfl,ez,λ_ h=>ez,h.tl⟩,?_⟩⟩);rintro i s ⟨j,rfl,n,m,h⟩;refine⟨λe=>?_,λe=>?_⟩
 .have d:j<65:=by grind
  refine⟨_,acx ez ez,?_⟩;rw[Fp];refine⟨λa=>?_,λa=>?_⟩
  .have a:=ke a;have:pB f=false:=by rw[q2q];grind [rH]
   rw[this]at k;exact k _ h
  have a:=ix a;conv=>whnf
  rw[show i64.wrap ((j:Int)+1)=((j+1:Nat):Int) by grind [aN]];grind
 have:j=65:=by grind
 subst this;have:pB f=true:=rH.2 m;rw[this]at k;exact k _ h
theorem nH(b:aG v):bX Tryz.prog 302 #[aB v] H (aB (cy v)):=by
 refine Rr ?_;have hb:=qq b;unfold cy at hb ⊢;refine⟨λc=>?_,λc=>⟨λa=>?_,λa=>?_⟩⟩;.grind
 .grind
 have d:=ix c;have f:=ix a;rw[b_ d,b_ f]at hb ⊢;unfold aG at b;have e:u64.wrap v=((v.toNat:Nat):Int):=by grind [eF]
 rw[e];refine⟨_,J0 ez,?_,rfl⟩;grind [aN]
theorem agd(h:gq x):aG (C3 x):=by unfold gq at h;unfold aG C3 FN;omega
theorem acI(h:aG v):Int.fdiv v (2^(min (Int.toNat 63) (i64.bits)))=C3 v:=by show Int.fdiv v 9223372036854775808=C3 v;rw[q3a _ ee];unfold aG at h;grind
theorem Bc(c:aG v)(h:aA H F)(k:∀a,aA a F->K (lM v) a):CF 301 #[aB v] H K:=by
 refine cM 301 28 (h.al λb _ h=>⟨ee,?_⟩);rw[acI c];have e:u64.wrap v=C5 v:=by rw[eF]
 conv=>whnf
 rw[e];refine SL h λ_ h=>?_;refine⟨_,_,Rs1,k _ h.tl⟩
theorem Bd(j:gq x)(i:gq v)(h:aA H F)(k:∀f,aA f F->K (.tuple #[lM (ig x v).1,aB (ig x v).2]) f) : CF 469 #[lM x,lM v] H K:=by
 refine cM 469 70108 ?_;have m:=qp x;have n:=qp v;have d:=agd j;have c:=agd i;have y:=wz x;have w:=wz v;have s:(C5 x+C5 v)%FN=C5 (x+v):=by grind
 have eq:i64.wrap ((C5 x+C5 v)/FN)=(C5 x+C5 v)/FN:=by unfold FN at *;grind [aN]
 have t:i64.wrap (i64.wrap (C3 x+C3 v)+(C5 x+C5 v)/FN)=i64.wrap (C3 (x+v)):=by rw[kA,kA,kA];grind
 refine h.al λb _ h=>h.al λb1 _ h=>h.al λb2 _ h=>⟨_,h.r 2,_,h.r 1,_,_,JA m.1 n.1,_,h.r 2,_,h.r 1,_,h.r 2,_,h.r 1,?_⟩;rw[eq,t,s];have a:decide (aZ .and .i64 (aZ .xor .i64 (C3 x) (i64.wrap (C3 (x+v)))) (aZ .xor .i64 (C3 v) (i64.wrap (C3 (x+v))))<0)=!decide (gq (x+v)):=by rw[q24,v_,IK (xo _ _ _) (xo _ _ _),s_,v_,v_,xn d (rz _),xn c (rz _),xm,xm,Xt,DA];unfold gq at j i ⊢;rw[kA];unfold C3 FN;omega
 conv=>whnf
 rw[a];unfold ig at k;refine⟨λu=>?_,λu=>?_⟩;.have:¬gq (x+v):=ix (by grind);rw[b_ this]at k;refine St3 h λ_ h=>?_;refine⟨_,_,Rs3,k _ h.tl.tl.tl⟩
 have:gq (x+v):=ke (by grind);rw[c_ this]at k;have e:i64.wrap (C3 (x+v))=C3 (x+v):=by grind [aN]
 rw[e];refine St3 h λ_ h=>?_;refine⟨_,_,Rs3,k _ h.tl.tl.tl⟩
theorem SN(l r:List Int):(l++r).sum=l.sum+r.sum:=by grind
theorem JB(h:c<t.length):(t.take (c+1)).sum=(t.take c).sum+t[c]:=by rw[q1c h,SN];simp
theorem JC:∀{l:List Int},(∀x∈l,aG x)->-(9223372036854775808*(l.length:Int))<=l.sum/\l.sum<=9223372036854775808*(l.length:Int)
 | [],_=>eh
 | a::l,h=>by have c:=h a DQ;have d:=JC (l:=l) λx b=>h x (DE _ b);grind [aG]
theorem aiv(hs:gq x)(b:aG v)(a:gq (x+v)) : i64.wrap (i64.wrap (C3 x+C3 v)+i64.wrap ((C5 x+C5 v)/FN))=C3 (x+v)/\(C5 x+C5 v)%FN=C5 (x+v):=by
 have e:=qp x;have f:=qp v;have h:=wz x;have i:=wz v;refine⟨?_,by grind⟩;have eq:i64.wrap ((C5 x+C5 v)/FN)=(C5 x+C5 v)/FN:=by unfold FN at *;grind [aN]
 rw[eq];have d:aG (C3 (x+v)):=by unfold gq at a;unfold aG C3 FN;omega
 have c:i64.wrap (i64.wrap (C3 x+C3 v)+(C5 x+C5 v)/FN)=i64.wrap (C3 (x+v)):=by rw[kA,kA,kA];unfold C3 C5 FN;omega
 grind [aN]
def Q_(h:Nat->Int):List Int:=(List.range 65).map h
def XA(h:Nat->Int):Int:=(Q_ h).sum
theorem aaQ(f:Nat->Int)(n i:Nat):cq .i64 f n i=((List.range n).map λj=>f (i+j)).map aB:=by induction n generalizing i with
  | zero=>rfl
  | succ n ih=>rw[cq,ih,List.range_succ_eq_map];simp only[Hw,XL,q28];congr 1;apply q2e;grind
theorem aaP(f:Nat->Int):cq .i64 f 65 0=(Q_ f).map aB:=by grind [aaQ,Q_]
theorem abq(f:Nat->Int):(Q_ f).length=65:=by simp[Q_]
theorem abp(h:x∈Q_ f):∃i,i<65/\x=f i:=by obtain⟨i,hi,rfl⟩:=zb.1 h;grind
structure Cl where
 n:Int
 sum:Int
 mn:Int
 mx:Int
 F9:Int
 pos:Int
 h:Nat->Int
def Cl.z:Cl:=⟨0,0,0,0,0,0,Z0⟩
abbrev dF(c:Cl):Xa:=[aB c.n,aB (C3 c.sum),.int .u64 (C5 c.sum),aB c.mn,aB c.mx,aB c.F9,aB c.pos]++cq .i64 c.h 65 0
abbrev Fs(c:Cl):Value:=.agg ⟨dF c⟩
theorem lN(c:Cl):(dF c).length=72:=by simp[dF,xN]
structure WC(c:Cl):Prop where
 n:aG c.n
 sum:gq c.sum
 mn:aG c.mn
 mx:aG c.mx
 F9:aG c.F9
 pos:aG c.pos
 h:wfH c.h
theorem WC.z:WC Cl.z:=⟨ee,ee,ee,ee,ee,ee,vj⟩
def inB(c:Cl):Bool:=(List.range 65).all λi=>decide (c.h i=0)||decide (cy c.mn<=i/\(i:Int)<=cy c.mx)
def gr(c:Cl):Bool:=
 !(decide (c.n<0)||decide (c.F9<0)||decide (c.pos<0)||decide (c.mx<c.mn))&&pB c.h&&decide (XA c.h=c.n) &&
 (if c.n=0 then decide (c.sum=0)&&decide (c.mn=0)&&decide (c.mx=0)
  else !(decide (c.h (cy c.mn).toNat=0)||decide (c.h (cy c.mx).toNat=0))&&inB c)
def ii(c:Cl)(Fe:Bool):Cl×Int:=
 if gr c=false then (Cl.z,10) else
 if Fe then (if c.F9=9223372036854775807 then (Cl.z,12) else ({ c with F9:=c.F9+1 },0))
 else (if c.pos=9223372036854775807 then (Cl.z,12) else ({ c with pos:=c.pos+1 },0))
def kG(c:Cl)(v:Int):Cl×Int:=
 if gr c=false then (Cl.z,10) else
 if (jS c.n 1).2≠0 then (Cl.z,12) else
 if (ig c.sum v).2≠0 then (Cl.z,12) else
 if (jD c.h v).2≠0 then (Cl.z,12) else
 let mn:=if c.n=0 then v else c.mn
 let mx:=if c.n=0 then v else c.mx
 ({ c with n:=(jS c.n 1).1,sum:=(ig c.sum v).1,h:=(jD c.h v).1,mn:=if v<mn then v else mn,mx:=if v>mx then v else mx },0)
theorem JD{c:Cl}(h:WC c)(b:Bool):WC (ii c b).1:=by
 unfold ii;have d:=h.F9;have a:=h.pos;unfold aG at d a;split;.exact WC.z
 split
 .split;.exact WC.z
  exact⟨h.n,h.sum,h.mn,h.mx,by unfold aG;grind,h.pos,h.h⟩
 split;.exact WC.z
 exact⟨h.n,h.sum,h.mn,h.mx,h.F9,by unfold aG;grind,h.h⟩
theorem afI(a b:Int):aG (jS a b).1:=by
 unfold jS;split;.assumption
 decide
theorem ad9(a b:Int):gq (ig a b).1:=by
 unfold ig;split;.assumption
 decide
theorem afJ(a:wfH f)(c:aG v):wfH (jD f v).1:=by
 unfold jD;split;.exact vj
 split;.exact vj
 intro i hi;dsimp only[fO];split;.rename_i d e b;subst b;have:=a _ hi;unfold aG at *;omega
 exact a i hi
theorem afK{c:Cl}(h:WC c)(a:aG v):WC (kG c v).1:=by
 unfold kG;split;.exact WC.z
 split;.exact WC.z
 split;.exact WC.z
 split;.exact WC.z
 refine⟨afI _ _,ad9 _ _,?_,?_,h.F9,h.pos,afJ h.h a⟩;.dsimp only;have:=h.mn;split <;> split <;> assumption
 dsimp only;have:=h.mx;split <;> split <;> assumption
theorem SP{vs:List Int}(w:vs.length=n)(h:aA H F)(y:∀H,aA H F->aQ H a (vs.map aB))(u:∀x∈vs,aG x)(D:n<=1000000) (k:∀t,aA t F->K (lM vs.sum) t):CF 380 #[.slice a n c] H K:=by
 subst w;refine Rh (h.al λb _ h=>h.al λb1 _ h=>⟨λi t=>∃j:Nat,i=j/\j<=vs.length/\aA t (ax b1 [aB (C3 (vs.take j).sum),.int .u64 (C5 (vs.take j).sum)] 177::ax b [aB 0,.int .u64 0] 177::F),λi _=>vs.length-i.toNat,⟨0,rfl,ED _,h⟩,?_⟩);rintro i I ⟨j,rfl,G,h⟩;have m:∀q,gq (vs.take q).sum:=λq=>by have:=JC (l:=vs.take q) λx A=>u x (RB A);rw[q23]at this;unfold gq;omega
 refine⟨λC=>?_,λC=>?_⟩
 .have d:j<vs.length:=by grind
  have v:=(y _ h.tl.tl).at d;have s:=u _ (q_ d);have f:=m (j+1);rw[JB d]at f;have e:=aiv (m j) s f;rw[<-JB d]at e;have B:u64.wrap vs[j]=C5 vs[j]:=by rw[eF]
  refine⟨⟨ez,ez⟩,_,_,v.1,_,v.2,_,h.r 0,?_⟩;rw[B];refine⟨_,_,JA (qp _).1 (qp _).1,_,h.r 0,ee,?_⟩;rw[acI s,e.1,e.2];refine h.zy 0 rfl rfl λE h=>?_;rw[show i64.wrap ((j:Int)+1)=((j+1:Nat):Int) by grind [aN]];exact⟨⟨j+1,rfl,d,h⟩,by grind⟩
 have:j=vs.length:=by grind
 subst this;rw[FY (w_ _)]at h;repeat (first| refine Hz h λ_ h=>?_| refine⟨_,_,He,?_⟩)
 exact k _ h.tl.tl
theorem SQ(d:wfH f)(h:aA H F)(k:∀a,aA a F->K (lM (XA f)) a):CF 300 #[.agg ⟨cq .i64 f 65 0⟩] H K:=by
 refine Rs (h.al λb _ h=>h.al λb1 _ h=>⟨ee,?_⟩);have e0:y_ (some ⟨b,0,none⟩) 0 65 1=some ⟨b,0,none⟩:=rfl;rw[e0];refine SP (vs:=Q_ f) (abq f) h (λH h=>?_) (λx c=>?_) ee λe h=>⟨_,_,rfl,?_⟩;.have:=h.eG 1 rfl;rw[aaP]at this;exact this
 .obtain⟨i,hi,rfl⟩:=abp c;exact d i hi
 refine h.zy 0 rfl rfl λj h=>⟨_,_,h.u_ 0 rfl,k _ h.tl.tl⟩
theorem JE(h:aA H F)(k:∀b a,aA a (ax b (cq .i64 f 65 0) 179::F)->K (.func (.func 303) #[] #[PA b 0]) a):CF 235 #[.agg ⟨cq .i64 f 65 0⟩] H K:=by refine cM 235 28 (h.al λb _ h=>k _ _ h)
theorem JG(A:Nat->aF)(w:aF)(h:aA H (A 0::ax b (cq .i64 f 65 0) 179::F)) (D:∀j,j<65->f j=0->A j=A (j+1)) (B:∀j,j<65->f j≠0->∀(G:List aF) (v:aC) (s:KE),aA v (A j::G)->(∀a,aA a (A (j+1)::G)->s (.bool true) a)->(∀a,aA a (w::G)->s (.bool false) a)->fu Tryz.prog c [aB (j:Nat),aB (f j)] v s) (k:∀l,aA l (A 65::ax b (cq .i64 f 65 0) 179::F)->K (.tuple #[]) l) (C:∀l,aA l (w::ax b (cq .i64 f 65 0) 179::F)->K (.tuple #[]) l) : CF 303 #[.func (.yield c) #[] #[],PA b 0] H K:=by
 refine cN 303 0x15612399251283994 [[(18,sB)],[(6,sI)]] ⟨f,h.u_ 1 rfl,⟨λi l=>∃j:Nat,i=j/\j<=65/\aA l (A j::ax b (cq .i64 f 65 0) 179::F),λi _=>65-i.toNat,⟨0,rfl,ez,h⟩,?_⟩⟩;rintro i v ⟨j,rfl,J,h⟩;refine⟨λE=>?_,λE=>?_⟩
 .have d:j<65:=by grind
  refine⟨_,acx ez ez,?_⟩;rw[Fp];have e:∀a,aA a (A (j+1)::ax b (cq .i64 f 65 0) 179::F)->(∃t:Nat,i64.wrap ((j:Int)+1)=t/\t<=65/\aA a (A t::ax b (cq .i64 f 65 0) 179::F))/\65-(i64.wrap ((j:Int)+1)).toNat<65-((j:Int)).toNat:=by intro a h;rw[show i64.wrap ((j:Int)+1)=((j+1:Nat):Int) by grind [aN]];grind
  refine λI n=>⟨λx=>?_,λx=>?_⟩
  .have u:f j≠0:=by grind
   refine B j d u _ _ _ h (λa h=>⟨true,rfl,n _ _ ?_⟩) (λa h=>⟨false,rfl,n _ _ ?_⟩);.skip;exact⟨λm=>by simp at m,λ_=>e _ h⟩
   skip;exact⟨λ_=>C _ h,λm=>by simp at m⟩
  have y:f j=0:=by grind
  refine n _ _ ?_;rw[D j d y]at h;exact⟨λm=>by simp at m,λ_=>e _ h⟩
 have:j=65:=by grind
 subst this;exact k _ h
end Go.Proofs.YtlmphkpeajnhjaaGreatDoor
