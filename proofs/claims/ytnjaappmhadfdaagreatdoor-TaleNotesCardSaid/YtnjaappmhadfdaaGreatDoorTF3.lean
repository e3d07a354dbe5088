/-
  Lemmas for TaleBack: part 3 of what it rests on. Conditions: none.
-/
import Derived.Test.YtnjaappmhadfdaaGreatDoorTF2
set_option linter.unusedVariables false
set_option linter.unusedSimpArgs false
set_option maxRecDepth 100000
set_option maxHeartbeats 16000000
open Go.IntKind (i64 u64 i8 u8 i32 u32 i16 u16)
namespace Go.Proofs.YtnjaappmhadfdaaGreatDoor
open Go
open Go.Shelf
def Tryz.fmtA_ren:Go.Shelf.Ren:=⟨fun|173=>67|246=>127|283=>207|284=>208|285=>209|286=>210|129=>313|317=>318|318=>319|319=>320|320=>321|337=>405|338=>406|n=>n,fun|2=>2|3=>3|9=>9|4=>4|171=>377|0=>0|53=>153|37=>38|5=>5|173=>379|212=>493|51=>349|20=>20|213=>494|46=>267|232=>633|233=>634|n=>n,fun|17=>4|18=>9|19=>10|n=>n⟩
theorem Tryz.fmtA:Go.Proofs.LaysM.n173 Tryz.prog Tryz.fmtA_ren:={
 mixed:=by kernel_rfl
 f129:=zt Tryz.func313
 f173:=zt Tryz.func67
 f246:=zt Tryz.func127
 f283:=zt Tryz.func207
 f284:=zt Tryz.func208
 f285:=zt Tryz.func209
 f286:=zt Tryz.func210
 f317:=zt Tryz.func318
 f318:=zt Tryz.func319
 f319:=zt Tryz.func320
 f320:=zt Tryz.func321
 f337:=zt Tryz.func405
 f338:=zt Tryz.func406
 t0:=Tryz.underlying0
 a0:=Tryz.isAgg0
 z0:=Tryz.sizeOf0
 v0:=Tryz.zeroValue0
 t2:=Tryz.underlying2
 a2:=Tryz.isAgg2
 z2:=Tryz.sizeOf2
 v2:=Tryz.zeroValue2
 t3:=Tryz.underlying3
 a3:=Tryz.isAgg3
 z3:=Tryz.sizeOf3
 v3:=Tryz.zeroValue3
 t4:=Tryz.underlying4
 a4:=Tryz.isAgg4
 z4:=Tryz.sizeOf4
 v4:=Tryz.zeroValue4
 t5:=Tryz.underlying5
 a5:=Tryz.isAgg5
 z5:=Tryz.sizeOf5
 v5:=Tryz.zeroValue5
 t9:=Tryz.underlying9
 a9:=Tryz.isAgg9
 z9:=Tryz.sizeOf9
 v9:=Tryz.zeroValue9
 t20:=Tryz.underlying20
 a20:=Tryz.isAgg20
 z20:=Tryz.sizeOf20
 v20:=Tryz.zeroValue20
 t37:=Tryz.underlying38
 a37:=Tryz.isAgg38
 z37:=Tryz.sizeOf38
 v37:=Tryz.zeroValue38
 t46:=Tryz.underlying267
 a46:=Tryz.isAgg267
 z46:=Tryz.sizeOf267
 v46:=Tryz.zeroValue267
 t51:=Tryz.underlying349
 a51:=Tryz.isAgg349
 z51:=Tryz.sizeOf349
 v51:=Tryz.zeroValue349
 t53:=Tryz.underlying153
 a53:=Tryz.isAgg153
 z53:=Tryz.sizeOf153
 v53:=Tryz.zeroValue153
 t171:=Tryz.underlying377
 a171:=Tryz.isAgg377
 z171:=Tryz.sizeOf377
 v171:=Tryz.zeroValue377
 t173:=Tryz.underlying379
 a173:=Tryz.isAgg379
 z173:=Tryz.sizeOf379
 v173:=Tryz.zeroValue379
 t212:=Tryz.underlying493
 a212:=Tryz.isAgg493
 z212:=Tryz.sizeOf493
 v212:=Tryz.zeroValue493
 t213:=Tryz.underlying494
 a213:=Tryz.isAgg494
 z213:=Tryz.sizeOf494
 t232:=Tryz.underlying633
 a232:=Tryz.isAgg633
 z232:=Tryz.sizeOf633
 v232:=Tryz.zeroValue633
 t233:=Tryz.underlying634
 a233:=Tryz.isAgg634
 z233:=Tryz.sizeOf634
 v233:=Tryz.zeroValue634
 g17:=by kernel_rfl
 g18:=by kernel_rfl
 g19:=by kernel_rfl
 i0:=by kernel_rfl
 i2:=by kernel_rfl
 i3:=by kernel_rfl
 i4:=by kernel_rfl
 i5:=by kernel_rfl
 i9:=by kernel_rfl
 i20:=by kernel_rfl
 i37:=by kernel_rfl
 i46:=by kernel_rfl
 i51:=by kernel_rfl
 i53:=by kernel_rfl
 i171:=by kernel_rfl
 i173:=by kernel_rfl
 i212:=by kernel_rfl
 i232:=by kernel_rfl
 i233:=by kernel_rfl
 m17:=by kernel_rfl
 m18:=by kernel_rfl
 m19:=by kernel_rfl }
def Tryz.prsA_ren:Go.Shelf.Ren:=⟨fun|174=>128|247=>211|245=>212|287=>322|279=>323|280=>324|281=>325|282=>326|321=>407|322=>408|316=>409|171=>62|205=>410|243=>121|246=>127|283=>207|284=>208|285=>209|286=>210|129=>313|317=>318|318=>319|319=>320|320=>321|337=>405|338=>406|n=>n,fun|9=>9|3=>3|2=>2|75=>64|85=>259|4=>4|167=>497|5=>5|53=>153|175=>498|46=>267|168=>500|37=>38|0=>0|210=>602|21=>21|127=>99|145=>637|143=>635|171=>377|173=>379|212=>493|51=>349|20=>20|213=>494|232=>633|233=>634|80=>68|n=>n,fun|15=>7|16=>8|17=>4|18=>9|19=>10|n=>n⟩
theorem Tryz.prsA:Go.Proofs.LaysC.n174 Tryz.prog Tryz.prsA_ren:={
 mixed:=by kernel_rfl
 f129:=zt Tryz.func313
 f171:=zt Tryz.func62
 f174:=zt Tryz.func128
 f205:=zt Tryz.func410
 f243:=zt Tryz.func121
 f245:=zt Tryz.func212
 f246:=zt Tryz.func127
 f247:=zt Tryz.func211
 f279:=zt Tryz.func323
 f280:=zt Tryz.func324
 f281:=zt Tryz.func325
 f282:=zt Tryz.func326
 f283:=zt Tryz.func207
 f284:=zt Tryz.func208
 f285:=zt Tryz.func209
 f286:=zt Tryz.func210
 f287:=zt Tryz.func322
 f316:=zt Tryz.func409
 f317:=zt Tryz.func318
 f318:=zt Tryz.func319
 f319:=zt Tryz.func320
 f320:=zt Tryz.func321
 f321:=zt Tryz.func407
 f322:=zt Tryz.func408
 f337:=zt Tryz.func405
 f338:=zt Tryz.func406
 t0:=Tryz.underlying0
 a0:=Tryz.isAgg0
 z0:=Tryz.sizeOf0
 v0:=Tryz.zeroValue0
 t2:=Tryz.underlying2
 a2:=Tryz.isAgg2
 z2:=Tryz.sizeOf2
 v2:=Tryz.zeroValue2
 t3:=Tryz.underlying3
 a3:=Tryz.isAgg3
 z3:=Tryz.sizeOf3
 v3:=Tryz.zeroValue3
 t4:=Tryz.underlying4
 a4:=Tryz.isAgg4
 z4:=Tryz.sizeOf4
 v4:=Tryz.zeroValue4
 t5:=Tryz.underlying5
 a5:=Tryz.isAgg5
 z5:=Tryz.sizeOf5
 v5:=Tryz.zeroValue5
 t9:=Tryz.underlying9
 a9:=Tryz.isAgg9
 z9:=Tryz.sizeOf9
 v9:=Tryz.zeroValue9
 t20:=Tryz.underlying20
 a20:=Tryz.isAgg20
 z20:=Tryz.sizeOf20
 v20:=Tryz.zeroValue20
 t21:=Tryz.underlying21
 a21:=Tryz.isAgg21
 z21:=Tryz.sizeOf21
 v21:=Tryz.zeroValue21
 t37:=Tryz.underlying38
 a37:=Tryz.isAgg38
 z37:=Tryz.sizeOf38
 v37:=Tryz.zeroValue38
 t46:=Tryz.underlying267
 a46:=Tryz.isAgg267
 z46:=Tryz.sizeOf267
 v46:=Tryz.zeroValue267
 t51:=Tryz.underlying349
 a51:=Tryz.isAgg349
 z51:=Tryz.sizeOf349
 v51:=Tryz.zeroValue349
 t53:=Tryz.underlying153
 a53:=Tryz.isAgg153
 z53:=Tryz.sizeOf153
 v53:=Tryz.zeroValue153
 t75:=Tryz.underlying64
 a75:=Tryz.isAgg64
 z75:=Tryz.sizeOf64
 v75:=Tryz.zeroValue64
 t85:=Tryz.underlying259
 a85:=Tryz.isAgg259
 z85:=Tryz.sizeOf259
 v85:=Tryz.zeroValue259
 t127:=Tryz.underlying99
 a127:=Tryz.isAgg99
 z127:=Tryz.sizeOf99
 v127:=Tryz.zeroValue99
 t143:=Tryz.underlying635
 a143:=Tryz.isAgg635
 z143:=Tryz.sizeOf635
 v143:=Tryz.zeroValue635
 t145:=Tryz.underlying637
 a145:=Tryz.isAgg637
 z145:=Tryz.sizeOf637
 v145:=Tryz.zeroValue637
 t167:=Tryz.underlying497
 a167:=Tryz.isAgg497
 z167:=Tryz.sizeOf497
 v167:=Tryz.zeroValue497
 t168:=Tryz.underlying500
 a168:=Tryz.isAgg500
 z168:=Tryz.sizeOf500
 v168:=Tryz.zeroValue500
 t171:=Tryz.underlying377
 a171:=Tryz.isAgg377
 z171:=Tryz.sizeOf377
 v171:=Tryz.zeroValue377
 t173:=Tryz.underlying379
 a173:=Tryz.isAgg379
 z173:=Tryz.sizeOf379
 v173:=Tryz.zeroValue379
 t175:=Tryz.underlying498
 a175:=Tryz.isAgg498
 z175:=Tryz.sizeOf498
 v175:=Tryz.zeroValue498
 t210:=Tryz.underlying602
 a210:=Tryz.isAgg602
 z210:=Tryz.sizeOf602
 v210:=Tryz.zeroValue602
 t212:=Tryz.underlying493
 a212:=Tryz.isAgg493
 z212:=Tryz.sizeOf493
 v212:=Tryz.zeroValue493
 t213:=Tryz.underlying494
 a213:=Tryz.isAgg494
 z213:=Tryz.sizeOf494
 t232:=Tryz.underlying633
 a232:=Tryz.isAgg633
 z232:=Tryz.sizeOf633
 v232:=Tryz.zeroValue633
 t233:=Tryz.underlying634
 a233:=Tryz.isAgg634
 z233:=Tryz.sizeOf634
 v233:=Tryz.zeroValue634
 g15:=by kernel_rfl
 g16:=by kernel_rfl
 g17:=by kernel_rfl
 g18:=by kernel_rfl
 g19:=by kernel_rfl
 t80:=Tryz.underlying68
 a80:=Tryz.isAgg68
 z80:=Tryz.sizeOf68
 v80:=Tryz.zeroValue68
 i0:=by kernel_rfl
 i2:=by kernel_rfl
 i3:=by kernel_rfl
 i4:=by kernel_rfl
 i5:=by kernel_rfl
 i9:=by kernel_rfl
 i20:=by kernel_rfl
 i21:=by kernel_rfl
 i37:=by kernel_rfl
 i46:=by kernel_rfl
 i51:=by kernel_rfl
 i53:=by kernel_rfl
 i75:=by kernel_rfl
 i80:=by kernel_rfl
 i85:=by kernel_rfl
 i127:=by kernel_rfl
 i143:=by kernel_rfl
 i145:=by kernel_rfl
 i167:=by kernel_rfl
 i168:=by kernel_rfl
 i171:=by kernel_rfl
 i173:=by kernel_rfl
 i175:=by kernel_rfl
 i210:=by kernel_rfl
 i212:=by kernel_rfl
 i232:=by kernel_rfl
 i233:=by kernel_rfl
 m15:=by kernel_rfl
 m16:=by kernel_rfl
 m17:=by kernel_rfl
 m18:=by kernel_rfl
 m19:=by kernel_rfl
 c0:=by kernel_rfl
 c2:=by kernel_rfl
 c3:=by kernel_rfl
 c4:=by kernel_rfl
 c5:=by kernel_rfl
 c9:=by kernel_rfl
 c20:=by kernel_rfl
 c21:=by kernel_rfl
 c37:=by kernel_rfl
 c46:=by kernel_rfl
 c51:=by kernel_rfl
 c53:=by kernel_rfl
 c75:=by kernel_rfl
 c80:=by kernel_rfl
 c85:=by kernel_rfl
 c127:=by kernel_rfl
 c143:=by kernel_rfl
 c145:=by kernel_rfl
 c167:=by kernel_rfl
 c168:=by kernel_rfl
 c171:=by kernel_rfl
 c173:=by kernel_rfl
 c175:=by kernel_rfl
 c210:=by kernel_rfl
 c212:=by kernel_rfl
 c213:=by kernel_rfl
 c232:=by kernel_rfl
 c233:=by kernel_rfl }
def Tryz.splA_ren:Go.Shelf.Ren:=⟨fun|146=>23|221=>45|268=>83|138=>84|143=>85|195=>134|197=>135|218=>136|219=>137|260=>218|217=>216|225=>219|224=>220|267=>221|266=>329|314=>330|n=>n,fun|9=>9|31=>69|3=>3|4=>4|0=>0|105=>270|21=>21|5=>5|46=>267|119=>503|139=>506|138=>505|146=>490|51=>349|n=>n,fun|1=>3|3=>5|4=>6|n=>n⟩
theorem Tryz.splA:Go.Proofs.Lays.n146 Tryz.prog Tryz.splA_ren:={
 mixed:=by kernel_rfl
 f138:=zt Tryz.func84
 f143:=zt Tryz.func85
 f146:=zt Tryz.func23
 f195:=zt Tryz.func134
 f197:=zt Tryz.func135
 f217:=zt Tryz.func216
 f218:=zt Tryz.func136
 f219:=zt Tryz.func137
 f221:=zt Tryz.func45
 f224:=zt Tryz.func220
 f225:=zt Tryz.func219
 f260:=zt Tryz.func218
 f266:=zt Tryz.func329
 f267:=zt Tryz.func221
 f268:=zt Tryz.func83
 f314:=zt Tryz.func330
 t0:=Tryz.underlying0
 a0:=Tryz.isAgg0
 z0:=Tryz.sizeOf0
 v0:=Tryz.zeroValue0
 t3:=Tryz.underlying3
 a3:=Tryz.isAgg3
 z3:=Tryz.sizeOf3
 v3:=Tryz.zeroValue3
 t4:=Tryz.underlying4
 a4:=Tryz.isAgg4
 z4:=Tryz.sizeOf4
 v4:=Tryz.zeroValue4
 t5:=Tryz.underlying5
 a5:=Tryz.isAgg5
 z5:=Tryz.sizeOf5
 v5:=Tryz.zeroValue5
 t9:=Tryz.underlying9
 a9:=Tryz.isAgg9
 z9:=Tryz.sizeOf9
 v9:=Tryz.zeroValue9
 t21:=Tryz.underlying21
 a21:=Tryz.isAgg21
 z21:=Tryz.sizeOf21
 v21:=Tryz.zeroValue21
 t31:=Tryz.underlying69
 a31:=Tryz.isAgg69
 z31:=Tryz.sizeOf69
 v31:=Tryz.zeroValue69
 t46:=Tryz.underlying267
 a46:=Tryz.isAgg267
 z46:=Tryz.sizeOf267
 v46:=Tryz.zeroValue267
 t51:=Tryz.underlying349
 a51:=Tryz.isAgg349
 z51:=Tryz.sizeOf349
 v51:=Tryz.zeroValue349
 t105:=Tryz.underlying270
 a105:=Tryz.isAgg270
 z105:=Tryz.sizeOf270
 v105:=Tryz.zeroValue270
 t119:=Tryz.underlying503
 a119:=Tryz.isAgg503
 z119:=Tryz.sizeOf503
 t138:=Tryz.underlying505
 a138:=Tryz.isAgg505
 z138:=Tryz.sizeOf505
 v138:=Tryz.zeroValue505
 t139:=Tryz.underlying506
 a139:=Tryz.isAgg506
 z139:=Tryz.sizeOf506
 v139:=Tryz.zeroValue506
 t146:=Tryz.underlying490
 a146:=Tryz.isAgg490
 z146:=Tryz.sizeOf490
 v146:=Tryz.zeroValue490
 g1:=by kernel_rfl
 g3:=by kernel_rfl
 g4:=by kernel_rfl }
open Go.Shelf
def Tryz.sortIA_ren:Go.Shelf.Ren:=⟨fun|6=>305|15=>398|14=>397|28=>446|29=>313|20=>438|21=>439|22=>440|23=>441|24=>442|25=>443|26=>444|27=>445|46=>474|47=>475|48=>476|49=>477|50=>478|57=>506|n=>n,fun|22=>342|24=>136|25=>347|3=>3|39=>267|0=>0|53=>349|55=>153|4=>4|46=>624|45=>623|50=>628|5=>5|9=>9|66=>656|70=>659|76=>678|77=>679|n=>n,fun|n=>n⟩
theorem Tryz.sortIA:Go.Proofs.SlLaysF0.n6 Tryz.prog Tryz.sortIA_ren:={
 mixed:=by kernel_rfl
 f6:=⟨Tryz.f305.name,by decide,zt Tryz.func305⟩
 f14:=⟨Tryz.f397.name,by decide,zt Tryz.func397⟩
 f15:=zt Tryz.func398
 f20:=⟨Tryz.f438.name,by decide,zt Tryz.func438⟩
 f21:=⟨Tryz.f439.name,by decide,zt Tryz.func439⟩
 f22:=⟨Tryz.f440.name,by decide,zt Tryz.func440⟩
 f23:=⟨Tryz.f441.name,by decide,zt Tryz.func441⟩
 f24:=⟨Tryz.f442.name,by decide,zt Tryz.func442⟩
 f25:=⟨Tryz.f443.name,by decide,zt Tryz.func443⟩
 f26:=⟨Tryz.f444.name,by decide,zt Tryz.func444⟩
 f27:=⟨Tryz.f445.name,by decide,zt Tryz.func445⟩
 f28:=zt Tryz.func446
 f29:=zt Tryz.func313
 f46:=⟨Tryz.f474.name,by decide,zt Tryz.func474⟩
 f47:=zt Tryz.func475
 f48:=zt Tryz.func476
 f49:=⟨Tryz.f477.name,by decide,zt Tryz.func477⟩
 f50:=⟨Tryz.f478.name,by decide,zt Tryz.func478⟩
 f57:=⟨Tryz.f506.name,by decide,zt Tryz.func506⟩
 t0:=Tryz.underlying0
 a0:=Tryz.isAgg0
 z0:=Tryz.sizeOf0
 v0:=Tryz.zeroValue0
 t3:=Tryz.underlying3
 a3:=Tryz.isAgg3
 z3:=Tryz.sizeOf3
 v3:=Tryz.zeroValue3
 t4:=Tryz.underlying4
 a4:=Tryz.isAgg4
 z4:=Tryz.sizeOf4
 v4:=Tryz.zeroValue4
 t5:=Tryz.underlying5
 a5:=Tryz.isAgg5
 z5:=Tryz.sizeOf5
 v5:=Tryz.zeroValue5
 t9:=Tryz.underlying9
 a9:=Tryz.isAgg9
 z9:=Tryz.sizeOf9
 v9:=Tryz.zeroValue9
 t22:=Tryz.underlying342
 a22:=Tryz.isAgg342
 z22:=Tryz.sizeOf342
 v22:=Tryz.zeroValue342
 t25:=Tryz.underlying347
 a25:=Tryz.isAgg347
 z25:=Tryz.sizeOf347
 v25:=Tryz.zeroValue347
 t39:=Tryz.underlying267
 a39:=Tryz.isAgg267
 z39:=Tryz.sizeOf267
 v39:=Tryz.zeroValue267
 t45:=Tryz.underlying623
 a45:=Tryz.isAgg623
 z45:=Tryz.sizeOf623
 v45:=Tryz.zeroValue623
 t46:=Tryz.underlying624
 a46:=Tryz.isAgg624
 z46:=Tryz.sizeOf624
 v46:=Tryz.zeroValue624
 t50:=Tryz.underlying628
 a50:=Tryz.isAgg628
 z50:=Tryz.sizeOf628
 v50:=Tryz.zeroValue628
 t53:=Tryz.underlying349
 a53:=Tryz.isAgg349
 z53:=Tryz.sizeOf349
 v53:=Tryz.zeroValue349
 t55:=Tryz.underlying153
 a55:=Tryz.isAgg153
 z55:=Tryz.sizeOf153
 v55:=Tryz.zeroValue153
 t66:=Tryz.underlying656
 a66:=Tryz.isAgg656
 z66:=Tryz.sizeOf656
 v66:=Tryz.zeroValue656
 t70:=Tryz.underlying659
 a70:=Tryz.isAgg659
 z70:=Tryz.sizeOf659
 v70:=Tryz.zeroValue659
 t76:=Tryz.underlying678
 a76:=Tryz.isAgg678
 z76:=Tryz.sizeOf678
 v76:=Tryz.zeroValue678
 t77:=Tryz.underlying679
 a77:=Tryz.isAgg679
 z77:=Tryz.sizeOf679
 v77:=Tryz.zeroValue679 }
def Tryz.cloneI4_ren:Go.Shelf.Ren:=⟨fun|5=>178|7=>303|n=>n,fun|23=>191|25=>136|3=>138|4=>4|20=>20|n=>n,fun|n=>n⟩
theorem Tryz.cloneI4:Go.Proofs.SlLaysW.n5 Tryz.prog Tryz.cloneI4_ren:={
 mixed:=by kernel_rfl
 f5:=⟨Tryz.f178.name,by decide,zt Tryz.func178⟩
 f7:=zt Tryz.func303
 t4:=Tryz.underlying4
 a4:=Tryz.isAgg4
 z4:=Tryz.sizeOf4
 v4:=Tryz.zeroValue4
 t20:=Tryz.underlying20
 a20:=Tryz.isAgg20
 z20:=Tryz.sizeOf20
 v20:=Tryz.zeroValue20
 t23:=Tryz.underlying191
 a23:=Tryz.isAgg191
 z23:=Tryz.sizeOf191
 v23:=Tryz.zeroValue191 }
open  Go.RowKit Go.Maps Go.Sort Go.Shelf
theorem ib{P:Program}{f:FuncId}{args:Array Value}{w:World}{K:KQ}{Q:Ending->World->Prop}(h:Calls P f args w Q)(b:∀e a,Q e a->∃v,e=.returned v/\bR w a/\K v a.heap):Calls P f args w (Fin w K):=
 h.mono λe a c=>by
  obtain⟨v,rfl,i,d⟩:=b e a c;exact⟨i,d⟩
theorem sortsA(m:Nat):AnyZI.SortsIn Tryz.prog Tryz.sortedA_ren Fence.wide m:=
 ⟨λblk off cap ss W c a b=>callsIn_wide.2 (AnyM.slices_Sort_int Tryz.sortA blk off cap ss W c a b),
  λp cap W=>callsIn_wide.2 (AnyM.slices_Sort_int_none Tryz.sortA p cap W)⟩
theorem yW{ρ:Go.Shelf.Ren}(a:Go.Proofs.SlLaysZI.n7 Tryz.prog ρ){H:aC}{mb:Option Nat}{K:KQ}(k:K (.func (.func (ρ.f 10)) #[] #[.pointer (some ⟨H.size,0,none⟩)]) (H.push (.cells #[.map mb] (ρ.t 23)))) :
  CF (ρ.f 7) #[.map mb] H K:=by
 refine .mk λw b=>?_
 subst b;have h:=(callsIn_wide (n:=5)).1 (AnyZI.keys_in a Fence.wide 5 trivial rfl mb w);refine ib h ?_;rintro e c ⟨rfl,rfl⟩;exact⟨_,rfl,⟨rfl,rfl,rfl⟩,k⟩
theorem yX{ρ:Go.Shelf.Ren}(B:Go.Proofs.SlLaysZI.n7 Tryz.prog ρ)(e2:ρ.t 26=2)(en:∀args w,(callFunc (ρ.f 10) args).run Tryz.prog w=.ok (.enter (ρ.f 10) args) w){α:Type}{venc:α->Value}{H:aC}{L:List aD}{r O:Nat}{m:List (Int×α)}(h:aA H L)(i:Nat)(S:aS i L=mapA (Value.int .i64) venc r m)(R:∀x∈aL m,aG x)(P:m.length<=17592186044416){K:KQ}
  (k:∀a c H',aA H' (slA 2 1 a m.length c ((sortI (aL m)).map (Value.int .i64))::L)->cV H H'->K (.slice a m.length c) H') :
  CF 381 #[.func (.func (ρ.f 10)) #[] #[.pointer (some ⟨H.size,0,none⟩)]] (H.push (.cells #[.map (some r)] O)) K:=by
 refine .mk λw C=>?_
 have g:cV H w.heap:=by rw[C];exact cV.push _ _
 have M:aA w.heap L:=h.grow g;have E:=M.foc i;rw[S]at E;obtain⟨D,s,d,A⟩:=NH (k:=2) Tryz.underlying2 E R (by grind [maxLen]);have b:w.cell? ⟨H.size,0,none⟩=some (.map (some r)):=by
  simp[World.cell?,C]
 have u:SeqGives Fence.wide 2 Tryz.prog (ρ.f 10) #[.pointer (some ⟨H.size,0,none⟩)] encZ (λss=>ss.Perm (intKeys D)) (Maps.size D) w:=
  AnyZI.keys_gives (ρ:=ρ) { B with } Fence.wide _ trivial rfl (by omega) H.size r m.length D w (by rw[C];simp) b (by rw[e2];exact s)
 have G:=AnyZI.sorted_in Tryz.sortedA Fence.wide 5 trivial trivial trivial trivial rfl (by omega) (sortsA _) (enters_of Tryz.func431 (by kernel_rfl) rfl) (ρ.f 10) #[.pointer (some ⟨H.size,0,none⟩)] trivial en _ _ (by unfold maxLen;omega) (by omega) w u;change CallsIn _ _ Tryz.prog 381 _ _ _ at G;refine ib ((callsIn_wide (n:=5)).1 G) ?_;rintro e U ⟨v,ss,rfl,Q,j,I,hb⟩;obtain⟨a,c,rfl,J⟩:=M.of_row hb j;have N:ss.Perm (aL m):=Q.trans d;have F:ss.length=m.length:=by rw[N.length_eq];grind
 have T:ss.mergeSort (λx y=>decide (x<=y))=sortI (aL m):=D6 N
 rw[T,F]at J;refine⟨_,rfl,ru hb,?_⟩;rw[F];exact k a c _ J (g.trans (rq hb))
theorem tF{ρ:Go.Shelf.Ren}(b:Go.Proofs.SlLaysW.n5 Tryz.prog ρ){κ α:Type}{kenc:κ->Value}{venc:α->Value}{H:aC}{L:List aD}{r:Nat}{m:List (κ×α)}(h:aA H L)(i:Nat)(u:aS i L=mapA kenc venc r m){K:KQ}
  (k:∀H',aA H' (mapA kenc venc H.size m::L)->cV H H'->K (.map (some H.size)) H') :
  CF (ρ.f 5) #[.map (some r)] H K:=by
 refine .mk λw v=>?_
 subst v;have c:=h.foc i;rw[u]at c;obtain⟨d,es,a,n,s,y,t⟩:=mV c;have j:=AnyW.maps_Clone b r es a w t.get;refine ib j ?_;rintro e A ⟨rfl,rfl⟩;refine⟨_,rfl,⟨rfl,rfl,rfl⟩,k _ ?_ (cV.push _ _)⟩;exact (h.push (.map es a)).mono λp x=>⟨d,es,a,n,s,y,x⟩
section
variable {H:aC}{mb:Option Nat}{K:KQ}{α:Type}{venc:α->Value}{L:List aD}{r:Nat}{m:List (Int×α)}
theorem Pg(k:K (.func (.func 433) #[] #[.pointer (some ⟨H.size,0,none⟩)]) (H.push (.cells #[.map mb] 514))):CF 387 #[.map mb] H K:=yW Tryz.keysA k
theorem Ph(h:aA H L)(i:Nat)(d:aS i L=mapA (Value.int .i64) venc r m)(e:∀x∈aL m,aG x)(b:m.length<=17592186044416)
  (k:∀a c H',aA H' (slA 2 1 a m.length c ((sortI (aL m)).map (Value.int .i64))::L)->cV H H'->K (.slice a m.length c) H') :
  CF 381 #[.func (.func 433) #[] #[.pointer (some ⟨H.size,0,none⟩)]] (H.push (.cells #[.map (some r)] 514)) K:=yX Tryz.keysA rfl (enters_of Tryz.func433 (by kernel_rfl) rfl) h i d e b k
theorem Ex(h:aA H L)(i:Nat)(a:aS i L=mapA (Value.int .i64) venc r m)(k:∀H',aA H' (mapA (Value.int .i64) venc H.size m::L)->cV H H'->K (.map (some H.size)) H'):CF 368 #[.map (some r)] H K:=tF Tryz.cloneA h i a k
theorem Pj(k:K (.func (.func 432) #[] #[.pointer (some ⟨H.size,0,none⟩)]) (H.push (.cells #[.map mb] 520))):CF 382 #[.map mb] H K:=yW Tryz.keysA2 k
theorem Pl(h:aA H L)(i:Nat)(d:aS i L=mapA (Value.int .i64) venc r m)(e:∀x∈aL m,aG x)(b:m.length<=17592186044416)
  (k:∀a c H',aA H' (slA 2 1 a m.length c ((sortI (aL m)).map (Value.int .i64))::L)->cV H H'->K (.slice a m.length c) H') :
  CF 381 #[.func (.func 432) #[] #[.pointer (some ⟨H.size,0,none⟩)]] (H.push (.cells #[.map (some r)] 520)) K:=yX Tryz.keysA2 rfl (enters_of Tryz.func432 (by kernel_rfl) rfl) h i d e b k
theorem Pm(h:aA H L)(i:Nat)(a:aS i L=mapA (Value.int .i64) venc r m)(k:∀H',aA H' (mapA (Value.int .i64) venc H.size m::L)->cV H H'->K (.map (some H.size)) H'):CF 372 #[.map (some r)] H K:=tF Tryz.cloneA3 h i a k
theorem Pn(k:K (.func (.func 488) #[] #[.pointer (some ⟨H.size,0,none⟩)]) (H.push (.cells #[.map mb] 409))):CF 468 #[.map mb] H K:=yW Tryz.keysA3 k
theorem Po(h:aA H L)(i:Nat)(d:aS i L=mapA (Value.int .i64) venc r m)(e:∀x∈aL m,aG x)(b:m.length<=17592186044416)
  (k:∀a c H',aA H' (slA 2 1 a m.length c ((sortI (aL m)).map (Value.int .i64))::L)->cV H H'->K (.slice a m.length c) H') :
  CF 381 #[.func (.func 488) #[] #[.pointer (some ⟨H.size,0,none⟩)]] (H.push (.cells #[.map (some r)] 409)) K:=yX Tryz.keysA3 rfl (enters_of Tryz.func488 (by kernel_rfl) rfl) h i d e b k
theorem Ez(h:aA H L)(i:Nat)(a:aS i L=mapA (Value.int .i64) venc r m)(k:∀H',aA H' (mapA (Value.int .i64) venc H.size m::L)->cV H H'->K (.map (some H.size)) H'):CF 369 #[.map (some r)] H K:=tF Tryz.cloneA2 h i a k
end
theorem Pp(a cs post:Xb)(ys:List Int)(b:ys.length=cs.length) :
  putCells (Value.int .i64) a.length ys.toArray (a++cs++post).toArray=(a++ys.map (Value.int .i64)++post).toArray:=by
 apply Array.ext';apply Wp
 grind [putCells]
theorem sl32:SlT Tryz.prog 38 5 1 1:=eG (by kernel_rfl)
section
variable {F L:List aD}{H:aC}{K:KQ}
theorem rE{a:Xa}{c:Nat}{bs:List Int}(h:aA H L)(i:∀H,aA H L->aN H a (bs.map U8))(u:bs.length<=1099511627776)
  (k:∀d e H',aA H' (slA 5 1 d bs.length e (bs.map U8)::L)->K (.slice d bs.length e) H'):CF 97 #[.slice a bs.length c] H K:=by
 refine cM 97 476 ⟨λj=>?_,λj=>?_⟩
 .have:a=none:=by simp_all
  subst this;have v:=nR (i H h);have:bs=[]:=by simp_all
  subst this;exact k none 0 H (h.sl_nil 5 1)
 .refine h.al λb _ h=>?_
  have t:=i _ h.tl;have s:=aA.sl_pt (cs:=[]) h 1 0 rfl;refine aA.append (m:=bs.length) sl32 s 0 rfl t (by simp) (mW (λ_=>rfl) _) (by omega) (by omega) λd e H' n=>⟨_,_,_,rfl,?_⟩
  have f:aA H' (slA 5 1 d (0+bs.length) e ([]++bs.map U8)::L):=n;rw[VB,VZ]at f;have:=k d e H' f;rw[<-VB bs.length]at this;exact this
end
theorem slB0{a:Xa}{c s:Nat}(h:a=some ⟨aW a,aT a,none⟩):bM a 0 c s=a:=by
 unfold bM
 split
 .rfl
 .rw [h,VT,WG,fu];rfl
section
variable {F L:List aD}{H:aC}{K:KQ}
theorem EB{H:aC}{a b:Xa}{c d:Nat}{xs ys:List Int}(v:aN H a (xs.map U8))(hb:aN H b (ys.map U8))(x:xs.length<=1099511627776) :
  bO Tryz.prog 14 #[.slice a xs.length c,.slice b ys.length d] H (.bool (decide (xs=ys))):=by
 unfold bO;refine cN 14 0x1d21562139925b4c [[(5,sI)]] ?_;refine⟨λw=>?_,λw=>?_⟩
 .have:xs.length≠ys.length:=by grind
  refine⟨?_,rfl⟩;rw[decide_eq_false (λe=>this (by rw[e]))];rfl
 .have u:xs.length=ys.length:=by grind
  refine⟨λi H'=>H'=H/\∃k:Nat,i=k/\k<=xs.length/\xs.take k=ys.take k,λi _=>xs.length-i.toNat,⟨rfl,0,rfl,VE _,rfl⟩,?_⟩
  rintro i H' ⟨rfl,k,rfl,y,n⟩;refine⟨λm=>?_,λm=>?_⟩
  .have f:k<xs.length:=by grind
   have t:=v.at f;have s:=hb.at (j:=k) (by omega);have e3:i64.wrap ((k:Int)+1)=((k+1:Nat):Int):=aJ;refine⟨⟨by omega,by omega⟩,_,_,t.1,_,t.2,⟨by omega,by omega⟩,_,_,s.1,_,s.2,λh=>?_,λh=>?_⟩
   .have:xs[k]≠ys[k]:=by grind
    refine⟨?_,rfl⟩;rw[decide_eq_false (λe=>this (by simp[e]))];rfl
   .have:xs[k]=ys[k]:=by grind
    conv=>whnf
    rw[e3];refine⟨⟨rfl,k+1,rfl,f,?_⟩,by grind⟩
    grind [List.take_succ_eq_append_getElem]
  .have:k=xs.length:=by
    grind
   subst this;rw[VM (VD _),VM (by omega)]at n;exact⟨by rw[WI n];rfl,rfl⟩
end
theorem aN.subB{H:aC}{a:Xa}{cs:Xb}{k c:Nat}(h:aN H a cs)(m:cs.length<=c):aN H (bM a k c 1) (cs.drop k):=by
 intro j v i;have b:aI cs (k+j)=Option.some v:=by
  grind [fJ]
 obtain⟨d,n⟩:=h (k+j) v b;have f:=lI b;have e:bM a k c 1=Option.some ⟨aW a,aT a+k,none⟩:=by
  unfold bM;rw[nO,d,VT,fu,Wn];rfl
 rw[e];refine⟨rfl,?_⟩
 grind [aW,aT]
theorem u32w{x:Int}(b:0<=x)(a:x<4294967296):u32.wrap x=x:=by
 grind [IntKind.wrap,IntKind.bits,IntKind.signed]
theorem u8w{x:Int}(b:0<=x)(a:x<256):u8.wrap x=x:=by
 grind [IntKind.wrap,IntKind.bits,IntKind.signed]
theorem u64w{x:Int}(b:0<=x)(a:x<18446744073709551616):u64.wrap x=x:=by
 grind [IntKind.wrap,IntKind.bits,IntKind.signed]
def aP(l:List Int):Prop:=∀x∈l,0<=x/\x<256
def cA(u:Nat):List Int:=if h:u<128 then [(u:Int)] else ((128+u%128:Nat):Int)::cA (u/128)
termination_by u
decreasing_by omega
theorem pT{u:Nat}(h:u<128):cA u=[(u:Int)]:=by rw[cA,dif_pos h]
theorem pU{u:Nat}(h:¬u<128):cA u=((128+u%128:Nat):Int)::cA (u/128):=by rw[cA,dif_neg h]
theorem pV(u:Nat):aP (cA u):=by
 induction u using Nat.strongRecOn with
 | _ u ih=>
  by_cases h:u<128
  .rw [pT h];intro x a
   grind
  .rw [pU h];intro x a
   rcases V9.1 a with rfl|a
   .omega
   .exact ih (u/128) (by omega) x a
theorem yY(u:Nat):0<(cA u).length:=by
 by_cases h:u<128
 .rw [pT h];grind
 grind [pU]
inductive UR where
 | ok (u:Nat) (size:Nat)
 | form
 | ended
 deriving DecidableEq
def rdU:Nat->Nat->List Int->UR
 | _,_,[]=>.ended
 | acc,i,c::r=>if (c=0/\0<i)\/(1<c/\i=9) then .form else
   if c<128 then .ok (acc+c.toNat%128*2^(7*i)) (i+1) else rdU (acc+c.toNat%128*2^(7*i)) (i+1) r
theorem vG:∀{l:List Int} {a i u n:Nat},aP l->rdU a i l=.ok u n->i<=9->
  ∃w,u=a+w*2^(7*i)/\i<n/\n-i<=l.length/\cA w=l.take (n-i)/\n<=10/\(0<i->w≠0)/\w*2^(7*i)<2^64
 | [],a,i,u,n,_,h,_=>by grind [rdU]
 | c::r,a,i,u,n,hb,h,hi=>by
  have s:=hb c VI;rw[rdU]at h
  split at h
  .cases h
  .rename_i d
   split at h
   .rename_i m
    cases h
    refine⟨c.toNat,?_,by omega,?_,?_,by omega,λy=>?_,?_⟩
    .grind
    .grind
    .rw [pT (by omega),show i+1-i=1 by omega]
     grind
    .grind
    .by_cases b:i=9
     .grind
     .calc c.toNat*2^(7*i)<128*2^(7*i):=(Nat.mul_lt_mul_right (WP _)).2 (by omega)
       _=2^(7+7*i):=by grind
       _<=2^64:=Nat.pow_le_pow_right (by decide) (by omega)
   .rename_i f;have b:i≠9:=λe=>d (Or.inr ⟨by omega,e⟩)
    obtain⟨w,e1,e2,e3,e4,e5,e6,e7⟩:=vG (λx j=>hb x (VF _ j)) h (by omega)
    have A:=e6 (by omega);have em:c.toNat%128+128*w=c.toNat%128+w*128:=by omega
    have ep:(2:Nat)^(7*(i+1))=128*2^(7*i):=by grind
    refine⟨c.toNat%128+128*w,?_,by omega,?_,?_,e5,λ_=>by omega,?_⟩
    .grind
    .grind
    .rw [pU (by omega),show n-i=(n-(i+1))+1 by omega,WS,<-e4]
     grind
    .rw [ep]at e7;have t:i+1<=9:=by omega
     have k:w*2^(7*(i+1))<2^(64-7*(i+1))*2^(7*(i+1)):=by
      rw[<-Nat.pow_add,show 64-7*(i+1)+7*(i+1)=64 by omega,ep];exact e7
     have v:w<2^(64-7*(i+1)):=Nat.lt_of_mul_lt_mul_right k
     calc (c.toNat%128+128*w)*2^(7*i)<(128*2^(64-7*(i+1)))*2^(7*i):=(Nat.mul_lt_mul_right (WP _)).2 (by omega)
      _=2^64:=by rw[show (128:Nat)=2^7 from rfl,<-Nat.pow_add,<-Nat.pow_add,show 7+(64-7*(i+1))+7*i=64 by omega]
theorem Pq:∀{w i:Nat},w<2^(64-7*i)->i<=9->i+(cA w).length<=10:=by
 intro w
 induction w using Nat.strongRecOn with
 | _ w ih=>
  intro i a hi
  by_cases h:w<128
  .grind [pT]
  .have b:i≠9:=by
    grind
   rw[pU h];have:=ih (w/128) (by omega) (i:=i+1) (by
    rw[WH (by decide)]
    calc w<2^(64-7*i):=a
     _=2^(64-7*(i+1))*128:=by rw[show (128:Nat)=2^7 from rfl,<-Nat.pow_add,show 64-7*(i+1)+7=64-7*i by omega]) (by omega)
   grind
theorem pW(n:Nat):u8.wrap (n:Int)=((n%256:Nat):Int):=by
 grind [IntKind.wrap,IntKind.bits,IntKind.signed]
theorem or8_all:∀n,n<256->(n ||| 128)=128+n%128:=by decide +kernel
theorem Pr(n:Nat):aX .or .u8 (u8.wrap (n:Int)) 128=((128+n%128:Nat):Int):=by
 grind [pW,aX,BitVec.ofInt,or8_all]
theorem shift7(n:Nat):Int.fdiv (n:Int) (2^(min (Int.toNat 7) (u64.bits)))=((n/128:Nat):Int):=by
 show Int.fdiv (n:Int) 128=_
 grind
section
variable {F L:List aD}{H:aC}{K:KQ}
theorem nU{u:Nat}(a:u<18446744073709551616):(cA u).length<=10:=by
 have:=Pq (w:=u) (i:=0) (by grind) (by omega);omega
theorem vH{a:Xa}{c:Nat}{bs:List Int}{u:Nat}(h:aA H (slA 5 1 a bs.length c (bs.map U8)::F))(A:bs.length<=1099511627776)(t:u<18446744073709551616)
  (k:∀d e H',aA H' (slA 5 1 d (bs++cA u).length e ((bs++cA u).map U8)::F)->K (.slice d (bs++cA u).length e) H') :
  CF 384 #[.slice a bs.length c,.int .u64 u] H K:=by
 refine cN 384 5161250280592460 [[(0,sS),(1,sU)]] ?_;refine⟨λd v e x H'=>∃(cs:List Int) (w:Nat),v=cs.length/\x=w/\w<18446744073709551616/\cs++cA w=bs++cA u/\aA H' (slA 5 1 d cs.length e (cs.map U8)::F),λ_ _ _ u _=>u.toNat,
  ⟨bs,u,rfl,rfl,t,rfl,h⟩,?_⟩
 rintro a1 n1 c1 u1 y ⟨cs,w,rfl,rfl,B,m,i⟩;have n:cs.length<=1099511627786:=by
  have:=congrArg List.length m
  grind [nU]
 refine⟨λs=>?_,λs=>?_⟩
 .have b:¬w<128:=by grind
  rintro _ _ rfl rfl;rw[Pr];refine i.append1 sl32 0 rfl (by rfl) (by rfl) (by omega) (by omega) λd e j f=>⟨_,_,_,rfl,by decide,?_,by grind [shift7]⟩
  refine⟨cs++[((128+w%128:Nat):Int)],w/128,by simp,shift7 w,by omega,?_,?_⟩
  .grind [pU]
  .rw [VS,V6];exact f
 .have b:w<128:=by grind
  rintro _ _ rfl rfl;rw[pW];refine i.append1 sl32 0 rfl (by rfl) (by rfl) (by omega) (by omega) λd e j f=>⟨_,_,_,rfl,?_⟩
  have:=k d e j;rw[<-m,pT b,V6]at this;refine this ?_;rw[VS];rw[WR (by omega)]at f;exact f
end
theorem EC{a m p:Nat}(d:a<2^p)(h:a+m*2^p<18446744073709551616):aX .or .u64 (a:Int) ((m*2^p:Nat):Int)=((a+m*2^p:Nat):Int):=by
 have c:a<18446744073709551616:=by omega
 have b:m*2^p<18446744073709551616:=by omega
 have e1:(BitVec.ofInt u64.bits (a:Int)).toNat=a:=by
  rw[BitVec.ofInt_natCast,BitVec.toNat_ofNat];exact WR c
 have e2:(BitVec.ofInt u64.bits ((m*2^p:Nat):Int)).toNat=m*2^p:=by
  rw[BitVec.ofInt_natCast,BitVec.toNat_ofNat];exact WR b
 have e3:a ||| m*2^p=a+m*2^p:=by
  grind [Nat.mul_comm,Nat.two_pow_add_eq_or_of_lt]
 show u64.wrap ((BitVec.ofInt u64.bits (a:Int) ||| BitVec.ofInt u64.bits ((m*2^p:Nat):Int)).toNat:Int)=_
 grind [u64w]
theorem part64{c:Int}{i:Nat}(b:0<=c)(d:c<256)(hi:i<=9)(a:i=9->c<=1) :
  u64.wrap ((u64.wrap (Int.tmod c 128))*2^(min (7*i) 64))=((c.toNat%128*2^(7*i):Nat):Int)/\c.toNat%128*2^(7*i)+2^(7*i)<=18446744073709551616:=by
 have em:Int.tmod c 128=((c.toNat%128:Nat):Int):=by grind
 have hb:c.toNat%128*2^(7*i)+2^(7*i)<=18446744073709551616:=by
  have e:c.toNat%128*2^(7*i)+2^(7*i)=(c.toNat%128+1)*2^(7*i):=by grind
  rw[e]
  by_cases h:i=9
  .grind
  .calc (c.toNat%128+1)*2^(7*i)<=128*2^(7*8):=Nat.mul_le_mul (by omega) (Nat.pow_le_pow_right (by decide) (by omega))
    _<=18446744073709551616:=by decide
 grind [u64w]
def firV:UR->Value
 | .ok u n=>.tuple #[.int .u64 u,.int .i64 n,.int .i64 0]
 | .form=>.tuple #[.int .u64 0,.int .i64 0,.int .i64 10]
 | .ended=>.tuple #[.int .u64 0,.int .i64 0,.int .i64 15]
inductive RStep (bs:List Int)(k acc:Nat):Prop where
 | fin (h:bs.length<=k) (e:rdU acc k (bs.drop k)=.ended)
 | go (h:k<bs.length) (c:Int) (hc:bs[k]=c) (h0:0<=c) (h1:c<256) (hf:¬((c=0/\0<k)\/(1<c/\k=9)))
   (e1:c<128->rdU acc k (bs.drop k)=.ok (acc+c.toNat%128*2^(7*k)) (k+1))
   (e2:¬c<128->rdU acc k (bs.drop k)=rdU (acc+c.toNat%128*2^(7*k)) (k+1) (bs.drop (k+1)))
 | bad (h:k<bs.length) (c:Int) (hc:bs[k]=c) (hf:(c=0/\0<k)\/(1<c/\k=9)) (e:rdU acc k (bs.drop k)=.form)
theorem rstep{bs:List Int}(hb:aP bs)(k b:Nat):RStep bs k b:=by
 rcases W0 k bs.length with h|h
 .have hd:bs.drop k=bs[k]::bs.drop (k+1):=Wv h;have c:=hb _ (V7 h)
  by_cases hf:(bs[k]=0/\0<k)\/(1<bs[k]/\k=9)
  .exact .bad h _ rfl hf (by rw[hd,rdU,V1 hf])
  .refine .go h _ rfl c.1 c.2 hf (λa=>?_) (λa=>?_)
   .rw [hd,rdU,Vz hf,V1 a]
   .rw [hd,rdU,Vz hf,Vz a]
 .exact .fin h (by rw[List.drop_eq_nil_of_le h];rfl)
theorem EE{H:aC}{a:Xa}{c:Nat}{bs:List Int}(F:aN H a (bs.map U8))(hb:aP bs)(J:bs.length<=1099511627776) :
  bO Tryz.prog 191 #[.slice a bs.length c] H (firV (rdU 0 0 bs)):=by
 unfold bO;refine cN 191 0x11215612399251d1b4c [[(5,sU),(10,sI)]] ?_;refine⟨λu i H'=>H'=H/\∃k b:Nat,i=k/\u=b/\k<=9/\k<=bs.length/\b<2^(7*k)/\rdU b k (bs.drop k)=rdU 0 0 bs,λ_ i _=>bs.length-i.toNat,⟨rfl,0,0,rfl,rfl,by decide,VE _,by decide,rfl⟩,?_⟩
 rintro u i H' ⟨rfl,k,b,rfl,rfl,C,K,d,v⟩;refine⟨λD=>?_,λD=>?_⟩
 .have s:k<bs.length:=by grind
  have w:=F.at s;refine⟨⟨by omega,by omega⟩,_,_,w.1,_,w.2,?_⟩;have e7:i64.wrap (7*(k:Int))=((7*k:Nat):Int):=by grind [aJ]
  have y:i64.wrap ((k:Int)+1)=((k+1:Nat):Int):=aJ
  rcases rstep hb k b with ⟨h,_⟩|⟨h,x,t,E,m,A,e1,e2⟩|⟨h,x,t,A,e⟩
  .omega
  .rw [t];have B:=part64 (c:=x) (i:=k) E m C (λe9=>by
    grind)
   refine⟨λj=>?_,λ_=>⟨by decide,by rw[e7];omega,λn=>?_,λn=>?_⟩⟩
   .exfalso
    grind
   .conv=>whnf
    rw[e7,y,VL];show _=_/\_;have f:u64.wrap (u64.wrap (Int.tmod x 128)*2^(min (7*k) u64.bits))=((x.toNat%128*2^(7*k):Nat):Int):=B.1;rw[f,EC d (by omega),<-v,e1 (by grind)];exact⟨rfl,rfl⟩
   .conv=>whnf
    rw[e7,y,VL];have f:u64.wrap (u64.wrap (Int.tmod x 128)*2^(min (7*k) u64.bits))=((x.toNat%128*2^(7*k):Nat):Int):=B.1;have G:¬x<128:=by grind
    rw[f,EC d (by omega)];have k9:k≠9:=λe9=>A (Or.inr ⟨by omega,e9⟩)
    refine⟨⟨rfl,k+1,_,rfl,rfl,by omega,by omega,?_,?_⟩,by grind⟩
    .calc b+x.toNat%128*2^(7*k)<2^(7*k)+x.toNat%128*2^(7*k):=by omega
      _=(x.toNat%128+1)*2^(7*k):=by grind
      _<=128*2^(7*k):=Wf _ (by omega)
      _=2^(7*(k+1)):=by grind
    grind
  .rw [t];refine⟨λ_=>?_,λj=>?_⟩
   .rw [<-v,e];exact⟨rfl,rfl⟩
   .exfalso
    grind
 .have I:bs.length<=k:=by grind
  rcases rstep hb k b with ⟨h,e⟩|⟨h,_⟩|⟨h,_⟩
  .rw [<-v,e];exact⟨rfl,rfl⟩
  .omega
  .omega
def cntV(most:Int):UR->Value
 | .ok u n=>if max most 0<(u:Int) then .tuple #[.int .i64 0,.int .i64 0,.int .i64 17] else .tuple #[.int .i64 u,.int .i64 n,.int .i64 0]
 | .form=>.tuple #[.int .i64 0,.int .i64 0,.int .i64 10]
 | .ended=>.tuple #[.int .i64 0,.int .i64 0,.int .i64 15]
theorem EF{H:aC}{a:Xa}{c:Nat}{bs:List Int}{most:Int}(h:aN H a (bs.map U8))(hb:aP bs)(j:bs.length<=1099511627776)(hm:aG most) :
  bO Tryz.prog 194 #[.slice a bs.length c,.int .i64 most] H (cntV most (rdU 0 0 bs)):=by
 unfold bO;refine cM 194 73180 ?_;have b:=EE (c:=c) h hb j;have k:u64.wrap (if 0>most then 0 else most)=max most 0:=by
  grind [aG,u64w]
 cases hr:rdU 0 0 bs with
 | ok u n=>
  rw[hr]at b;refine⟨_,_,_,b,(λd=>by cases d),λ_=>⟨λi=>?_,λi=>?_⟩⟩
  .have f:max most 0<(u:Int):=by grind
   unfold cntV;dsimp only;rw[V1 f];exact⟨rfl,rfl⟩
  .have e:¬max most 0<(u:Int):=by grind
   unfold cntV;unfold aG at hm;dsimp only;rw[Vz e];exact⟨by show Value.tuple #[.int .i64 (i64.wrap _),_,_]=_;grind [aJ],rfl⟩
 | form=>
  rw[hr]at b;exact⟨_,_,_,b,λ_=>⟨rfl,rfl⟩,(λd=>by cases d)⟩
 | ended=>
  rw[hr]at b;exact⟨_,_,_,b,λ_=>⟨rfl,rfl⟩,(λd=>by cases d)⟩
section
variable {F L:List aD}{H:aC}{K:KQ}
theorem yZ{a:Xa}{c:Nat}{u:Nat}(h:aA H F)(s:∀H,aA H F->aN H a [.int .u64 u])(v:u<18446744073709551616)
  (k:∀b d H',aA H' (slA 5 1 b (cA u).length d ((cA u).map U8)::F)->K (.slice b (cA u).length d) H') :
  CF 343 #[.slice a 1 c] H K:=by
 refine cN 343 0x1121561239925144c [[(3,sS),(8,sI)]] ?_;refine⟨λb j d i H'=>(i=0/\j=0/\d=0/\b=none/\aA H' F)\/(i=1/\j=(cA u).length/\aA H' (slA 5 1 b (cA u).length d ((cA u).map U8)::F)),λ_ _ _ i _=>1-i.toNat,
  .inl ⟨rfl,rfl,rfl,rfl,h⟩,?_⟩
 rintro a1 n1 c1 i t (⟨rfl,rfl,rfl,rfl,e⟩|⟨rfl,rfl,e⟩)
 .skip
  refine⟨λ_=>?_,(λf=>by cases f)⟩
  have m:=(s _ e) 0 _ rfl;refine⟨by decide,_,_,m.1,_,m.2,?_⟩;have w:aA t (slA 5 1 none ([]:List Int).length 0 (([]:List Int).map U8)::F):=e.sl_nil 5 1;refine vH (bs:=[]) w (by simp) v λb d H' n=>⟨_,_,_,rfl,.inr ⟨rfl,rfl,n⟩,by dsimp only;decide⟩
 .skip
  exact⟨(λf=>by cases f),λ_=>k _ _ _ e⟩
end
structure RS where
 e:Int
 bs:List Int
def bY(most:Int)(s:RS):Int×RS:=if s.e≠0 then (0,s) else match rdU 0 0 s.bs with
 | .ok u n=>if max most 0<(u:Int) then (0,⟨17,s.bs⟩) else (u,⟨0,s.bs.drop n⟩)
 | .form=>(0,⟨10,s.bs⟩)
 | .ended=>(0,⟨15,s.bs⟩)
def bH(most:Int)(s:RS):List Int×RS:=if s.e≠0 then ([],s) else match rdU 0 0 s.bs with
 | .ok u n=>if max most 0<(u:Int) then ([],⟨17,s.bs⟩) else if s.bs.length<n+u then ([],⟨15,s.bs⟩) else ((s.bs.drop n).take u,⟨0,s.bs.drop (n+u)⟩)
 | .form=>([],⟨10,s.bs⟩)
 | .ended=>([],⟨15,s.bs⟩)
theorem rF{bs:List Int}{u n:Nat}(hb:aP bs)(h:rdU 0 0 bs=.ok u n):0<n/\n<=bs.length/\u<18446744073709551616:=by
 obtain⟨w,d,c,a,_,_,_,b⟩:=vG hb h (by omega)
 grind
def crdA(b:Nat)(s:RS):aD:=exS λp:Xa×Nat=>cellsA b [.slice p.1 s.bs.length p.2,.int .i64 s.e] 360*slA 5 1 p.1 s.bs.length p.2 (s.bs.map U8)
theorem gB{H:aC}{b:Nat}{s:RS}{L:List aD}:aA H (crdA b s::L)↔∃a c,aA H (cellsA b [.slice a s.bs.length c,.int .i64 s.e] 360::slA 5 1 a s.bs.length c (s.bs.map U8)::L):=by
 unfold crdA;rw[cy]
 constructor
 .grind [eX]
 .rintro⟨a,c,h⟩;exact⟨(a,c),eX.2 h⟩
def cw(s:List Int):Eq:=strOfNums s
section
variable {F L:List aD}{H:aC}{K:KQ}
theorem zc{b n c size:Nat}{a:Xa}(h:aA H (cellsA b [.slice a n c,.int .i64 0] 360::F))(hs:size<=n)(e:n<=c)
  (k:∀H',aA H' (cellsA b [.slice (bM a size c 1) (n-size) (c-size),.int .i64 0] 360::F)->K (.bool true) H') :
  CF 192 #[.pointer (some ⟨b,0,none⟩),.int .i64 size,.int .i64 0] H K:=by
 refine cM 192 125110962460 ?_;refine⟨_,h.r 0,(λd=>by cases d),λ_=>⟨(λd=>by cases d),λ_=>⟨_,_,_,h.rd 0 rfl _,⟨by omega,by omega,by omega⟩,?_⟩⟩⟩
 rw[VL];exact h.st 0 rfl rfl λH' h=>k _ h
theorem mZ{b n c:Nat}{size e:Int}{a:Xa}(h:aA H (cellsA b [.slice a n c,.int .i64 0] 360::F))(f:e≠0)
  (k:∀H',aA H' (cellsA b [.slice a n c,.int .i64 e] 360::F)->K (.bool false) H') :
  CF 192 #[.pointer (some ⟨b,0,none⟩),.int .i64 size,.int .i64 e] H K:=by
 refine cM 192 125110962460 ?_;refine⟨_,h.r 0,(λd=>by cases d),λ_=>⟨λ_=>?_,λd=>by simp[f]at d⟩⟩
 exact h.st 0 rfl rfl λH' h=>k _ h
theorem vI{b n c:Nat}{size e e0:Int}{a:Xa}(h:aA H (cellsA b [.slice a n c,.int .i64 e0] 360::F))(f:e0≠0)
  (k:K (.bool false) H):CF 192 #[.pointer (some ⟨b,0,none⟩),.int .i64 size,.int .i64 e] H K:=by
 refine cM 192 125110962460 ?_;exact⟨_,h.r 0,λ_=>k,λd=>by simp[f]at d⟩
theorem Err_spec{b n c:Nat}{e:Int}{a:Xa}(h:aA H (cellsA b [.slice a n c,.int .i64 e] 360::F)):bO Tryz.prog 187 #[.pointer (some ⟨b,0,none⟩)] H (.int .i64 e):=by
 unfold bO;refine cM 187 28 ?_;exact⟨_,h.r 0,rfl,rfl⟩
theorem Ps{b n c:Nat}{e:Int}{a:Xa}(h:aA H (cellsA b [.slice a n c,.int .i64 e] 360::F)):bO Tryz.prog 334 #[.pointer (some ⟨b,0,none⟩)] H (.int .i64 n):=by
 unfold bO;refine cM 334 28 ?_;exact⟨_,_,_,h.r 0,rfl,rfl⟩
theorem pX{b:Nat}{s:RS}(h:aA H (crdA b s::F)):bO Tryz.prog 187 #[.pointer (some ⟨b,0,none⟩)] H (.int .i64 s.e):=by
 obtain⟨a,c,h⟩:=gB.1 h;exact Err_spec h
theorem vJ{b:Nat}{s:RS}(h:aA H (crdA b s::F)):bO Tryz.prog 334 #[.pointer (some ⟨b,0,none⟩)] H (.int .i64 s.bs.length):=by
 obtain⟨a,c,h⟩:=gB.1 h;exact Ps h
theorem vK{a:Xa}{c:Nat}{bs:List Int}(h:aA H F)(d:∀H,aA H F->aN H a (bs.map U8))(e:bs.length<=1099511627776)
  (k:∀b H',aA H' (crdA b ⟨0,bs⟩::F)->K (.pointer (some ⟨b,0,none⟩)) H'):CF 113 #[.slice a bs.length c] H K:=by
 refine cM 113 28 ?_;refine rE h d e λf j i h=>⟨_,_,_,rfl,?_⟩
 refine h.al λb H2 h=>k _ _ ?_
 exact gB.2 ⟨_,_,h⟩
theorem vL{b:Nat}{s:RS}{most:Int}(h:aA H (crdA b s::F))(hb:aP s.bs)(y:s.bs.length<=1099511627776)(hm:aG most)
  (k:∀H',aA H' (crdA b (bY most s).2::F)->K (.int .i64 (bY most s).1) H') :
  CF 117 #[.pointer (some ⟨b,0,none⟩),.int .i64 most] H K:=by
 obtain⟨e,bs⟩:=s;dsimp only at hb y;obtain⟨a,c,h⟩:=gB.1 h;dsimp only at h;have D:=h.sl_rd 1 rfl;have E:=h.sl_nc 1 rfl;refine cM 117 4572 ?_;have d:=EF (c:=c) D hb y hm;have fin:∀r1 x:Int,∀(r:Int),(bY most ⟨e,bs⟩=(0,⟨x,bs⟩))->(∀m,(∀H',aA H' (cellsA b [.slice a bs.length c,.int .i64 x] 360::slA 5 1 a bs.length c (bs.map U8)::F)->m (.bool false) H')->CF 192 #[.pointer (some ⟨b,0,none⟩),.int .i64 r1,.int .i64 r] H m)->
   CF 192 #[.pointer (some ⟨b,0,none⟩),.int .i64 r1,.int .i64 r] H λu A=>∃r3:Bool,u=(.bool r3)/\(((!r3))=true->K (.int .i64 0) A)/\(((!r3))=false->K (.int .i64 (bY most ⟨e,bs⟩).1) A):=by
  intro r1 x r t f;rw[t]at k ⊢;exact f _ λH' v=>⟨_,rfl,λ_=>k _ (gB.2 ⟨_,_,v⟩),λj=>by cases j⟩
 by_cases t:e=0
 .subst t
  cases hu:rdU 0 0 bs with
  | ok u n=>
   obtain⟨I,C,G⟩:=rF hb hu;rw[hu]at d;unfold cntV at d;dsimp only at d
   by_cases hm1:max most 0<(u:Int)
   .rw [V1 hm1]at d;refine⟨_,_,_,h.r 0,_,_,_,d,?_⟩;have f:=fin 0 17 17 (by grind [bY]) λm i=>mZ h (by decide) i
    have e0:(bY most ⟨0,bs⟩).1=0:=by grind [bY]
    rw[e0]at f;exact f
   .rw [Vz hm1]at d;refine⟨_,_,_,h.r 0,_,_,_,d,?_⟩;have ec:bY most ⟨0,bs⟩=((u:Int),⟨0,bs.drop n⟩):=by grind [bY]
    rw[ec]at k;refine zc h C E λH' v=>⟨_,rfl,(λj=>by cases j),λ_=>k _ ?_⟩
    have B:=v.sl_drop 1 rfl n C;rw[Wn,<-List.map_drop]at B;refine gB.2 ⟨bM a n c 1,c-n,?_⟩;dsimp only;rw[Wb];exact B
  | form=>
   rw[hu]at d;refine⟨_,_,_,h.r 0,_,_,_,d,?_⟩;have f:=fin 0 10 10 (by grind [bY]) λm i=>mZ h (by decide) i
   have e0:(bY most ⟨0,bs⟩).1=0:=by grind [bY]
   rw[e0]at f;exact f
  | ended=>
   rw[hu]at d;refine⟨_,_,_,h.r 0,_,_,_,d,?_⟩;have f:=fin 0 15 15 (by grind [bY]) λm i=>mZ h (by decide) i
   have e0:(bY most ⟨0,bs⟩).1=0:=by grind [bY]
   rw[e0]at f;exact f
 .have ec:bY most ⟨e,bs⟩=(0,⟨e,bs⟩):=by grind [bY]
  rw[ec]at k;have w:∃r r1 r2:Int,cntV most (rdU 0 0 bs)=.tuple #[.int .i64 r,.int .i64 r1,.int .i64 r2]:=by
   unfold cntV
   split
   .split <;> exact⟨_,_,_,rfl⟩
   .grind
   grind
  obtain⟨r,r1,r2,w⟩:=w;rw[w]at d;refine⟨_,_,_,h.r 0,_,_,_,d,?_⟩;exact vI h t ⟨_,rfl,λ_=>k _ (gB.2 ⟨_,_,h⟩),λj=>by cases j⟩
theorem pY{H:aC}{a:Xa}{c:Nat}{bs:List Int}(e:a=none\/∃b o,a=some ⟨b,o,none⟩)(d:aN H a (bs.map U8)):cZ Tryz.prog (convert 38 9 (.slice a bs.length c)) H (.string (cw bs)):=by
 intro w f;subst f
 rcases e with rfl|⟨b,o,rfl⟩
 .have:=nR d;have hb:bs=[]:=by simp_all
  subst hb;exact run_convert_bytes_nil w 38 5 (by kernel_rfl) (by kernel_rfl) _ _ 9 (by kernel_rfl)
 .refine run_convert_bytes_arg w 38 5 (by kernel_rfl) (by kernel_rfl) b o _ c bs rfl (λi hi=>?_) 9 (by kernel_rfl)
  have h:=(d.at hi).2
  grind [aW,aT,cell?_cellAt]
theorem slB_is{e sz n c k:Nat}{a:Xa}{cs:Xb}(h:aA H (slA e sz a n c cs::F)):bM a k c sz=none\/∃b o,bM a k c sz=some ⟨b,o,none⟩:=by
 have d:a=none\/∃b o,a=some ⟨b,o,none⟩:=by
  rcases (jF (F:=star F) h).2 with ⟨d,_⟩|⟨b,f,post,i,fr,d,_⟩
  .grind
  grind
 unfold bM
 split
 .exact d
 .rcases d with rfl|⟨b,o,rfl⟩
  .grind
  .right;rw[VT,fu]
   grind
theorem rG{b:Nat}{s:RS}{most:Int}(h:aA H (crdA b s::F))(hb:aP s.bs)(D:s.bs.length<=1099511627776)(hm:aG most)
  (k:∀H',aA H' (crdA b (bH most s).2::F)->K (.string (cw (bH most s).1)) H') :
  CF 116 #[.pointer (some ⟨b,0,none⟩),.int .i64 most] H K:=by
 obtain⟨e,bs⟩:=s;dsimp only at hb D;obtain⟨a,c,h⟩:=gB.1 h;dsimp only at h;have M:=h.sl_rd 1 rfl;have P:=h.sl_nc 1 rfl;refine OU ?_;have f:=EF (c:=c) M hb D hm;have fin:∀(r r1 d C:Int),bH most ⟨e,bs⟩=([],⟨C,bs⟩)->(∀v:KQ,(∀H',aA H' (cellsA b [.slice a bs.length c,.int .i64 C] 360::slA 5 1 a bs.length c (bs.map U8)::F)->v (.bool false) H')->CF 192 #[.pointer (some ⟨b,0,none⟩),.int .i64 (i64.wrap (r1+r)),.int .i64 d] H v)->
   tE.r1 b 0 K r r1 d H:=by
  intro r r1 d C A L;unfold tE.r1;rw[A]at k;refine⟨_,_,_,h.r 0,?_⟩;exact L _ λH' w=>⟨_,rfl,λ_=>k _ (gB.2 ⟨_,_,w⟩),λm=>by cases m⟩
 by_cases A:e=0
 .subst A
  cases hu:rdU 0 0 bs with
  | ok u n=>
   obtain⟨T,U,S⟩:=rF hb hu;rw[hu]at f;unfold cntV at f;dsimp only at f
   by_cases hm1:max most 0<(u:Int)
   .rw [V1 hm1]at f;refine⟨_,_,_,h.r 0,_,_,_,f,λ_=>trivial,_,_,_,λ_=>h.r 0,λy i=>⟨λm=>by simp at m,λ_=>i _ _ ?_⟩⟩
    exact fin _ _ _ 17 (by grind [bH]) λv j=>mZ h (by decide) j
   .rw [Vz hm1]at f;unfold aG at hm;have N:(u:Int)<=9223372036854775807:=by omega
    have e1:i64.wrap (((bs.length:Nat):Int)-(n:Int))=((bs.length-n:Nat):Int):=by grind [aJ]
    refine⟨_,_,_,h.r 0,_,_,_,f,λ_=>trivial,_,_,_,λ_=>h.r 0,λy i=>⟨λx=>i _ _ ?_,λx=>i _ _ ?_⟩⟩
    .rw [e1]at x;have O:bs.length<n+u:=by grind
     exact fin _ _ _ 15 (by grind [bH]) λv j=>mZ h (by decide) j
    .rw [e1]at x;have R:¬bs.length<n+u:=by grind
     have Q:bH most ⟨0,bs⟩=((bs.drop n).take u,⟨0,bs.drop (n+u)⟩):=by grind [bH]
     rw[Q]at k;unfold tE.r1;have e2:i64.wrap ((n:Int)+(u:Int))=((n+u:Nat):Int):=by grind [aJ]
     refine⟨_,_,_,h.r 0,?_⟩;rw[e2];refine zc h (by omega) P λH' w=>⟨_,rfl,(λm=>by cases m),λ_=>⟨⟨by omega,by omega,by omega⟩,cw ((bs.drop n).take u),?_,k _ ?_⟩⟩
     .rw [VL,VL,WU];have J:=w.tl.sl_rd 0 rfl;have E:=(J.subB (k:=n) (c:=c) (by grind)).take u;rw[<-List.map_drop,<-List.map_take]at E;have I:=pY (c:=c-n) (slB_is w.tl) E;rw[W7,Wb,Nat.min_eq_left (by omega)]at I;exact I
     .have G:=w.sl_drop 1 rfl (n+u) (by omega);rw[Wn,<-List.map_drop]at G;refine gB.2 ⟨bM a (n+u) c 1,c-(n+u),?_⟩;dsimp only;rw[Wb];exact G
  | form=>
   rw[hu]at f;refine⟨_,_,_,h.r 0,_,_,_,f,λ_=>trivial,_,_,_,λ_=>h.r 0,λy i=>⟨λm=>by simp at m,λ_=>i _ _ ?_⟩⟩
   exact fin _ _ _ 10 (by grind [bH]) λv j=>mZ h (by decide) j
  | ended=>
   rw[hu]at f;refine⟨_,_,_,h.r 0,_,_,_,f,λ_=>trivial,_,_,_,λ_=>h.r 0,λy i=>⟨λm=>by simp at m,λ_=>i _ _ ?_⟩⟩
   exact fin _ _ _ 15 (by grind [bH]) λv j=>mZ h (by decide) j
 .have B:∃r r1 r2:Int,cntV most (rdU 0 0 bs)=.tuple #[.int .i64 r,.int .i64 r1,.int .i64 r2]:=by
   unfold cntV
   split
   .split <;> exact⟨_,_,_,rfl⟩
   .grind
   grind
  obtain⟨r,r1,r2,B⟩:=B;rw[B]at f;have t:∀d,tE.r1 b 0 K r r1 d H:=λd=>fin r r1 d e (by grind [bH]) λv j=>vI h A (j _ h)
  exact⟨_,_,_,h.r 0,_,_,_,f,λ_=>trivial,_,_,_,λ_=>h.r 0,λy i=>⟨λx=>i _ _ (t _),λ_=>i _ _ (t _)⟩⟩
end
theorem pZ{a b:List Int}(c:aP a)(hb:aP b):aP (a++b):=λx d=>(VJ.1 d).elim (c x) (hb x)
theorem vO{a:List Int}(n:Nat)(b:aP a):aP (a.take n):=λx c=>b x (Ww c)
theorem oK{a:List Int}(n:Nat)(b:aP a):aP (a.drop n):=λx c=>b x (W3 c)
theorem vQ{xs:List Int}(h:aP xs)(i:Nat)(hi:i<xs.length):((UInt8.ofNat (xs[i]).toNat).toNat:Int)=xs[i]:=by
 have:=h _ (V7 hi)
 grind [UInt8.toNat_ofNat']
section
variable {F L:List aD}{H:aC}{K:KQ}
theorem sl_same{H:aC}{a:Xa}{cs:Xb}{c:Nat}(h:aN H a cs)(b:cs≠[]):bM a 0 c 1=a:=by
 cases cs with
 | nil=>grind
 | cons v r=>exact slB0 (h 0 v rfl).1
end
section
variable {F L:List aD}{H:aC}{K:KQ}
theorem zd{t:List Int}(hb:aP t)(h:aA H L)(k:∀a c H',aA H' (slA 5 1 a t.length c (t.map U8)::L)->K (.slice a t.length c) H') :
  bS Tryz.prog (convert 9 38 (.string (cw t))) H K:=by
 refine .mk λw y=>?_
 subst y;have hs:(cw t).size=t.length:=strOfNums_size t;have m:=run_bytes_of_string w 9 38 5 (cw t) (P:=Tryz.prog) (by kernel_rfl) (by kernel_rfl) (by kernel_rfl);rw[hs]at m;have d:=grownCap_ge w t.length 0 5;obtain⟨cap,j⟩:∃cap,grownCap w t.length 0 5=cap:=⟨_,rfl⟩;rw[j]at m d;have s:(bytesRow (cw t) cap).toList=t.map U8++List.replicate (cap-t.length) (U8 0):=by
  have e1:(bytesRow (cw t) cap).toList=(cw t).data.toList.map (λb=>U8 (b.toNat:Int))++List.replicate (cap-(cw t).size) (U8 0):=by
   grind [bytesRow,Array.toList_map,Array.toList_replicate]
  have e2:(cw t).data.toList.map (λb=>U8 (b.toNat:Int))=t.map U8:=by
   have:(cw t).data.toList=t.map λn=>UInt8.ofNat n.toNat:=strOfNums_data t
   rw[this,Wg];refine WJ (by simp) λi v u=>?_
   simp only[List.getElem_map,Function.comp_apply]
   grind [vQ]
  grind
 have e:bytesRow (cw t) cap=(t.map U8++List.replicate (cap-t.length) (U8 0)).toArray:=by
  grind
 refine⟨_,_,m,⟨rfl,rfl,rfl⟩,k _ _ _ ?_⟩;rw[e];have f:aA _ _:=h.push (.cells (t.map U8++List.replicate (cap-t.length) (U8 0)).toArray 5 ((t.map U8++List.replicate (cap-t.length) (U8 0)).toArray.size,(t.map U8++List.replicate (cap-t.length) (U8 0)).toArray.size+1));generalize hC:t.map U8++List.replicate (cap-t.length) (U8 0)=C at f;have x:C.length=cap:=by grind
 refine aA.mono f λp f=>⟨by simp,.inr ⟨_,[],List.replicate (cap-t.length) (U8 0),5,(C.toArray.size,C.toArray.size+1),rfl,d,by simp,λ_ i v u A=>?_,?_⟩⟩
 .grind
 .rw [VZ,hC];exact f
end
open  Go.RowKit Go.Maps Go.Sort Go.Shelf
theorem Pu{H:aC}{L:List aD}{a:Xa}{c:Nat}{xs:List Int}(h:aA H L)(i:Nat)(M:aS i L=slA 3 1 a xs.length c (xs.map (Value.int .i64)))(x:xs.length<4611686018427387904){K:KQ}
  (k:∀H',aA H' (put i (slA 3 1 a xs.length c ((sortI xs).map (Value.int .i64))) L)->K (.tuple #[]) H') :
  CF 333 #[.slice a xs.length c] H K:=by
 refine .mk λw N=>?_
 subst N;have E:=h.foc i;rw[M]at E;obtain⟨Q,⟨rfl,G,rfl,m⟩|⟨b,d,post,D,fr,rfl,A,t,v,m⟩⟩:=jF E
 .have P:xs=[]:=W5.1 G;subst P;refine ib (AnyM.slices_Sort_int_none Tryz.sortI none 0 w) ?_;rintro e J ⟨rfl,rfl⟩;refine⟨_,rfl,⟨rfl,rfl,rfl⟩,k _ (aA.back ?_)⟩;rw[show (sortI ([]:List Int))=[] from yx List.Pairwise.nil];exact rh m
 .have hb:=aO.get m;have C:b<w.heap.size:=aO.lt m;have F:Holds (Value.int .i64) w b d.length xs.toArray:=by
   intro j u;have f:j<xs.length:=by simpa using u
   refine⟨?_,?_⟩
   case refine_2=>
    have:=v (d.length+j) (by omega) (by omega);simp only[World.frozen?,hb,Bool.and_eq_false_iff,VG];omega
   simp only[World.cell?,hb,Option.isSome_none,WQ,if_false,List.getElem?_toArray];rw[VX,List.getElem?_append_right (by omega),WU,List.getElem?_append_left (by simpa using f),List.getElem?_map,List.getElem?_eq_getElem f];simp[f]
  refine ib (AnyM.slices_Sort_int Tryz.sortI b d.length c xs w F C x) ?_;rintro e J ⟨rfl,n,os,rfl⟩;refine⟨_,rfl,⟨rfl,rfl,rfl⟩,k _ (aA.back ?_)⟩;have hs:(sortI xs).length=xs.length:=vl xs;have y:aO (w.heap.modify b (onCells (putCells (Value.int .i64) d.length (sortI xs).toArray))) (pt b (.cells (d++(sortI xs).map (Value.int .i64)++post).toArray D fr)*star (del i L)):=by
   refine aO.upd m ?_ λj u=>?_
   .rw [Array.getElem?_modify,V1 rfl,hb];simp only[VT,onCells];rw[Pp _ _ _ _ (by simp[hs])]
   .rw [Array.getElem?_modify,Vz (Ne.symm u)]
  have I:aO (w.heap.modify b (onCells (putCells (Value.int .i64) d.length (sortI xs).toArray))++os.toList.toArray) (pt b (.cells (d++(sortI xs).map (Value.int .i64)++post).toArray D fr)*star (del i L)):=
   y.grow λj u=>by rw[Array.getElem?_append_left u]
  have s:=I.frame (B:=slA 3 1 (some ⟨b,d.length,none⟩) xs.length c ((sortI xs).map (Value.int .i64))) λp O=>⟨by simp[hs],.inr ⟨b,d,post,D,fr,rfl,A,t,λ_=>v,O⟩⟩
  simpa[grow,putRow,mapBlock,Sort.ahead,sortI] using s
def zabs(v:Int):Nat:=v.natAbs
def iS(a b:Int):Int×Int:=if aG (a+b) then (a+b,0) else (0,12)
def signS(n:Nat)(neg:Bool):Int×Int:=
 if neg then (if 9223372036854775808<n then (0,12) else (-(n:Int),0)) else (if 9223372036854775807<n then (0,12) else ((n:Int),0))
def oL(a b c:Int)(up:Bool):Int×Int:=
 if c<1 then (0,11) else
 if c.toNat<=zabs a*zabs b/18446744073709551616 then (0,12) else
 let q:=zabs a*zabs b/c.toNat
 if 9223372036854775808<q then (0,12) else
 let neg:=!(decide (a<0) == decide (b<0))
 signS (if !decide (zabs a*zabs b%c.toNat=0) && !(neg == up) then q+1 else q) neg
abbrev iT(rho:Int):Prop:=0<=rho/\rho<=100000
def lowS(x rho:Int):Int×Int:=
 if x < -4611686018427387904\/4611686018427387904<x\/¬iT rho then (0,11) else
 if 0<x then (if 1<(oL (x-1) 1000000 (1000000+rho) true).1 then (oL (x-1) 1000000 (1000000+rho) true).1 else 1,(oL (x-1) 1000000 (1000000+rho) true).2)
 else (i64.wrap (0-(oL (1-x) 1000000 (1000000-rho) false).1),(oL (1-x) 1000000 (1000000-rho) false).2)
def oM(x rho:Int):Int×Int:=
 if x < -4611686018427387904\/4611686018427387904<x then (0,11) else (i64.wrap (0-(lowS (-x) rho).1),(lowS (-x) rho).2)
theorem highS_wf(x rho:Int):aG (oM x rho).1:=by
 unfold oM
 split
 .simp [aG]
 .exact pP _
structure Gp where
 lo:Int
 hi:Int
deriving DecidableEq
def Gp.z:Gp:=⟨0,0⟩
abbrev jk(g:Gp):Xb:=[.int .i64 g.lo,.int .i64 g.hi]
abbrev jl(g:Gp):Value:=.agg #[.int .i64 g.lo,.int .i64 g.hi]
abbrev Gp.ok(g:Gp):Prop:=g.lo<=g.hi
def meet2(a b:Gp):Gp:=⟨if b.lo>a.lo then b.lo else a.lo,if b.hi<a.hi then b.hi else a.hi⟩
def lT:Gp->List Gp->Gp×Int
 | s,[]=>if s.ok then (s,0) else (Gp.z,13)
 | s,g::r=>if g.ok then lT (meet2 s g) r else (Gp.z,10)
def kb(l:List Gp):Gp×Int:=lT ⟨-9223372036854775808,9223372036854775807⟩ l
theorem vR(g:Gp):(jk g).length=2:=rfl
def vS(g:Gp):Int:=if g.ok then u64.wrap ((u64.wrap g.hi)-(u64.wrap g.lo)) else 0
def midS(g:Gp):Int:=if g.ok then i64.wrap ((aX .and .i64 g.lo g.hi)+(Int.fdiv (aX .xor .i64 g.lo g.hi) (2^(min (Int.toNat 1) (i64.bits))))) else 0
section
variable {F L:List aD}{H:aC}{K:KQ}
theorem EH{a b:Int}(d:aG a)(hb:aG b):bO Tryz.prog 418 #[aB a,aB b] H (.tuple #[aB (iS a b).1,aB (iS a b).2]):=by
 refine Oo ?_;unfold ID;rw[add_over d hb];unfold iS;refine⟨λc=>?_,λc=>?_⟩
 .grind
 .have:aG (a+b):=by simpa using c
  rw[V1 this];have e:i64.wrap (a+b)=a+b:=aJ (by grind [aG]) (by grind [aG])
  grind
theorem EI{v:Int}(h:aG v):bO Tryz.prog 484 #[aB v] H (.int .u64 (zabs v:Nat)):=by
 refine Oh ?_;unfold zabs;unfold aG at h;refine⟨λa=>⟨?_,rfl⟩,λa=>⟨?_,rfl⟩⟩
 .simp only[V5]at a
  grind [fw]
 grind [fw]
theorem EJ{n:Nat}{neg:Bool}(h:n<18446744073709551616):bO Tryz.prog 485 #[.int .u64 (n:Nat),.bool neg] H (.tuple #[aB (signS n neg).1,aB (signS n neg).2]):=by
 refine cM 485 4852664796 ?_;unfold signS
 cases neg
 .refine⟨λa=>by simp at a,λ_=>⟨λb=>?_,λb=>?_⟩⟩
  .have:9223372036854775807<n:=by grind
   rw[Vz Bool.false_ne_true,V1 this];exact⟨rfl,rfl⟩
  .have:¬9223372036854775807<n:=by grind
   conv=>whnf
   rw[Vz Bool.false_ne_true,Vz this,aJ];exact⟨rfl,rfl⟩
 .refine⟨λ_=>⟨λb=>?_,λb=>?_⟩,λa=>by simp at a⟩
  .have:9223372036854775808<n:=by grind
   rw[V1 rfl,V1 this];exact⟨rfl,rfl⟩
  .have:¬9223372036854775808<n:=by grind
   rw[V1 rfl,Vz this];have e:i64.wrap (u64.wrap (0-(n:Int)))=-(n:Int):=by grind [fw,i64e]
   conv=>whnf
   rw[e];exact⟨rfl,rfl⟩
theorem Pw{x y:Nat}(c:x<18446744073709551616)(b:y<18446744073709551616) :
  bO Tryz.prog 316 #[.int .u64 (x:Nat),.int .u64 (y:Nat)] H (.tuple #[.int .u64 ((x*y/18446744073709551616:Nat):Int),.int .u64 ((x*y%18446744073709551616:Nat):Int)]):=by
 refine O6 ?_;refine⟨by decide,by decide,by decide,by decide,by decide,?_⟩;have hm:=mul64_arith (x:Int) (y:Int) (by omega) (by omega) (by omega) (by omega);have key:∀a:Nat,u64.wrap (a:Int)=((a%18446744073709551616:Nat):Int):=u64m;have d:∀a:Nat,aX .and .u64 ((a%18446744073709551616:Nat):Int) 4294967295=((a%18446744073709551616%4294967296:Nat):Int):=λa=>tv (W4 _ (by decide))
 rw[tv c,tv b];simp only[fdiv32,mulNN,addNN,key,d,and_true]
 grind
theorem Px{s:Eq}{i:Nat}(h:i<s.size):bAt s i=((s[i]'h).toNat:Int):=by
 unfold bAt;rw[Array.getElem?_eq_getElem (show i<s.data.size from h)];rfl
theorem Py{n:Nat}(h:n<18446744073709551616):bitLen n<=64:=by
 unfold bitLen
 split
 .omega
 .rename_i a;have:=(Nat.log2_lt a).2 (show n<2^64 from h);omega
theorem EK{x:Nat}(h:x<18446744073709551616):bO Tryz.prog 313 #[.int .u64 (x:Nat)] H (aB (bitLen x:Nat)):=by
 refine cN 313 0x1217149217149217149c [[(0,sU),(2,sI)],[(0,sU),(2,sI)],[(0,sU),(2,sI)]] ?_;have last:∀(y:Nat) (n:Nat),y<256->bitLen x=n+bitLen y->n<=64->mY.r1 (λu H'=>u=aB (bitLen x:Nat)/\H'=H) (y:Int) (n:Int) H:=by
  intro y n d hb f;unfold mY.r1;have ey:u8.wrap (y:Int)=(y:Int):=u8w (by omega) (by omega);have k:=bitLen_le8 y d;rw[ey];refine⟨⟨by omega,?_⟩,?_,rfl⟩
  .show (y:Int)<256;omega
  .rw [show bAt _ ((y:Int)).toNat=((bitLen y:Nat):Int) from (Px (i:=y) (by show y<256;omega)).trans (congrArg Nat.cast (len8tab_get y (by show y<256;omega)))]
   grind [aJ]
 have s2:∀(y:Nat) (n:Nat),y<65536->bitLen x=n+bitLen y->n<=56->mY.r2 (λu H'=>u=aB (bitLen x:Nat)/\H'=H) (y:Int) (n:Int) H:=by
  intro y n d hb f;unfold mY.r2;refine λj b=>⟨λa=>⟨by decide,?_⟩,λa=>b _ _ _ (last y n (by grind) hb (by omega))⟩
  simp only[V5]at a;have e:Int.fdiv (y:Int) (2^(min (Int.toNat 8) (u64.bits)))=((y/256:Nat):Int):=r8 y 8;have c:i64.wrap ((n:Int)+8)=((n+8:Nat):Int):=by grind [aJ]
  rw[e,c];refine b _ _ _ (last (y/256) (n+8) (by omega) ?_ (by omega));have:=bitLen_shift y 8 (by grind)
  grind
 have s3:∀(y:Nat) (n:Nat),y<4294967296->bitLen x=n+bitLen y->n<=32->mY.r3 (λu H'=>u=aB (bitLen x:Nat)/\H'=H) (y:Int) (n:Int) H:=by
  intro y n d hb f;unfold mY.r3;refine λj b=>⟨λa=>⟨by decide,?_⟩,λa=>b _ _ _ (s2 y n (by grind) hb (by omega))⟩
  simp only[V5]at a;have e:Int.fdiv (y:Int) (2^(min (Int.toNat 16) (u64.bits)))=((y/65536:Nat):Int):=r8 y 16;have c:i64.wrap ((n:Int)+16)=((n+16:Nat):Int):=by grind [aJ]
  rw[e,c];refine b _ _ _ (s2 (y/65536) (n+16) (by omega) ?_ (by omega));have:=bitLen_shift y 16 (by grind)
  grind
 refine λj b=>⟨λa=>⟨by decide,?_⟩,λa=>b _ _ _ (s3 x 0 (by grind) (by omega) (by omega))⟩
 simp only[V5]at a;rw[fdiv32];refine b _ _ _ (s3 (x/4294967296) 32 (by omega) ?_ (by omega));have:=bitLen_shift x 32 (by grind);rw[this]
theorem Pz{x:Nat}(h:x<18446744073709551616):bO Tryz.prog 202 #[.int .u64 (x:Nat)] H (aB ((64-bitLen x:Nat):Int)):=by
 refine OJ ?_;have a:=Py h;refine⟨_,EK h,?_,rfl⟩
 grind [aJ]
end
theorem tdivN(a b:Nat):Int.tdiv (a:Int) (b:Int)=((a/b:Nat):Int):=rfl
theorem tmodN(a b:Nat):Int.tmod (a:Int) (b:Int)=((a%b:Nat):Int):=rfl
theorem w_un{u u1 Q Y:Nat}(h:Q=(u*4294967296+u1)/Y)(b:0<Y)(a:Y<18446744073709551616) :
  u64.wrap ((u64.wrap ((u64.wrap ((u:Int)*4294967296))+(u1:Int)))-(u64.wrap ((Q:Int)*(Y:Int))))=(((u*4294967296+u1)%Y:Nat):Int):=by
 have c:=Nat.div_add_mod' (u*4294967296+u1) Y;have d:=W4 (u*4294967296+u1) b;rw[<-h]at c
 grind [fw]
theorem norm_y{y:Nat}(b:0<y)(h:y<18446744073709551616):64-bitLen y<64/\y*2^(64-bitLen y)<18446744073709551616/\9223372036854775808<=y*2^(64-bitLen y):=by
 obtain⟨c,a⟩:=bitLen_spec y;have a:=a (by omega);have e:bitLen y<=64:=by
  unfold bitLen
  split
  .omega
  .rename_i b;have:=(Nat.log2_lt b).2 (show y<2^64 from h);omega
 have d:0<bitLen y:=by grind
 refine⟨by omega,?_,?_⟩
 .calc y*2^(64-bitLen y)<2^bitLen y*2^(64-bitLen y):=(Nat.mul_lt_mul_right (WP _)).2 c
   _=18446744073709551616:=by rw[<-Nat.pow_add,show bitLen y+(64-bitLen y)=64 by omega]
 .calc 9223372036854775808=2^(bitLen y-1)*2^(64-bitLen y):=by rw[<-Nat.pow_add,show bitLen y-1+(64-bitLen y)=63 by omega]
   _<=y*2^(64-bitLen y):=Wf _ a
theorem norm_u{hi lo y s:Nat}(hs:s<64)(c:hi<y)(b:lo<18446744073709551616)(h:y*2^s<18446744073709551616) :
  hi*2^s+lo/2^(64-s)<y*2^s/\aX .or .u64 (u64.wrap ((hi:Int)*2^s)) (Int.fdiv (lo:Int) (2^(64-s)))=((hi*2^s+lo/2^(64-s):Nat):Int):=by
 have e:lo/2^(64-s)<2^s:=by
  rw[WH (WP _),<-Nat.pow_add,show s+(64-s)=64 by omega];exact b
 have d:hi*2^s+2^s<=y*2^s:=by
  rw[<-Nat.succ_mul];exact Wf _ c
 refine⟨by omega,?_⟩;have e1:(hi:Int)*2^s=((hi*2^s:Nat):Int):=by grind
 have a:hi*2^s<18446744073709551616:=Nat.lt_of_lt_of_le (Nat.lt_add_of_pos_right (WP s)) (W2 d (Nat.le_of_lt h));rw[e1,r8,u64n a,or64 a (Nat.lt_of_le_of_lt (Nat.div_le_self _ _) b)]
 grind [Nat.mul_comm,Nat.two_pow_add_eq_or_of_lt]
section
variable {F L:List aD}{H:aC}{K:KQ}
theorem div_core{hi lo y s Y u v:Nat}(hs:s<64)(h5:Y<18446744073709551616)(h4:9223372036854775808<=Y)(T:u<Y)(h8:v<18446744073709551616)(h6:hi≠0)
  (ey:u64.wrap ((y:Int)*2^s)=(Y:Int)) (h:u64.wrap ((lo:Int)*2^s)=(v:Int))
  (O:aX .or .u64 (u64.wrap ((hi:Int)*2^s)) (Int.fdiv (lo:Int) (2^(64-s)))=(u:Int))
  (hz:bO Tryz.prog 202 #[.int .u64 (y:Nat)] H (aB (s:Nat)))
  (k:K (.tuple #[.int .u64 (((u*18446744073709551616+v)/Y:Nat):Int),.int .u64 ((((u*18446744073709551616+v)%Y)/2^s:Nat):Int)]) H) :
  kW.r5 (hi:Int) (lo:Int) (y:Int) K H:=by
  unfold kW.r5;refine⟨λe=>?_,λe=>?_⟩
  .grind
  refine⟨_,hz,?_⟩;have es:u64.wrap (s:Int)=(s:Int):=u64n (by omega);have em:min (Int.toNat (s:Int)) u64.bits=s:=by grind [IntKind.bits]
  have b:u64.wrap (64-(s:Int))=((64-s:Nat):Int):=by grind [fw]
  have i:min (Int.toNat ((64-s:Nat):Int)) u64.bits=64-s:=by grind [IntKind.bits]
  obtain⟨u1,h7⟩:∃u1,v/4294967296=u1:=⟨_,rfl⟩;obtain⟨u0,j1⟩:∃u0,v%4294967296=u0:=⟨_,rfl⟩;obtain⟨y1,Z⟩:∃y1,Y/4294967296=y1:=⟨_,rfl⟩;obtain⟨y0,h9⟩:∃y0,Y%4294967296=y0:=⟨_,rfl⟩;have w:y1*4294967296+y0=Y:=by omega
  have ev:u1*4294967296+u0=v:=by grind
  have b1:2147483648<=y1:=by omega
  have j3:y1<4294967296:=by omega
  have b0:y0<4294967296:=by omega
  have c1:u1<4294967296:=by omega
  have c0:u0<4294967296:=by omega
  have S:=kn_join (u:=u) (u1:=u1) (u0:=u0) (y:=Y) (by omega);have e0:u*18446744073709551616+v=(u*4294967296+u1)*4294967296+u0:=by grind
  rw[e0,S.1]at k;rw[S.2]at k;have F:Int.fdiv (Y:Int) (2^(min (Int.toNat 32) (u64.bits)))=(y1:Int):=by grind
  have fv:Int.fdiv (v:Int) (2^(min (Int.toNat 32) (u64.bits)))=(u1:Int):=by grind
  have E:aX .and .u64 (Y:Int) 4294967295=(y0:Int):=by grind [tv]
  have D:aX .and .u64 (v:Int) 4294967295=(u0:Int):=by grind [tv]
  have cond:∀q r w1:Nat,r<4294967296->w1<4294967296->((decide (4294967296<=(q:Int))||decide (u64.wrap ((u64.wrap (4294967296*(r:Int)))+(w1:Int))<u64.wrap ((q:Int)*(y0:Int))))=true↔(4294967296<=q\/4294967296*r+w1<q*y0)):=by
   intro q r w1 C hw;have ea:u64.wrap ((u64.wrap (4294967296*(r:Int)))+(w1:Int))=((4294967296*r+w1:Nat):Int):=by grind [fw]
   rw[ea,mulNN,u64m];simp only[VY,V5]
   by_cases hB:4294967296<=q
   .grind
   .have:q*y0<=4294967296*4294967295:=Nat.mul_le_mul (by omega) (by omega)
    grind
  have J:∀q r:Nat,1<=q->r<4294967296->q<=4294967297->u64.wrap ((q:Int)-1)=((q-1:Nat):Int)/\u64.wrap ((r:Int)+(y1:Int))=((r+y1:Nat):Int):=by
   grind [fw]
  have N:∀U:Nat,U<Y->u64.wrap ((U/y1:Nat):Int)=((U/y1:Nat):Int)/\u64.wrap ((U:Int)-u64.wrap (((U/y1:Nat):Int)*(y1:Int)))=((U%y1:Nat):Int)/\U%y1<4294967296:=by
   intro U hU;have h1:=Nat.div_add_mod' U y1;have h2:=Nat.div_le_self U y1;have h3:=W4 U (show 0<y1 by omega)
   grind [fw]
  obtain⟨t,d⟩:∃t,(u*4294967296+u1)/Y=t:=⟨_,rfl⟩;obtain⟨f,G⟩:∃f,(u*4294967296+u1)%Y=f:=⟨_,rfl⟩;have A:f<Y:=by grind [Nat.mod_lt]
  have w1:=w_un (u:=u) (u1:=u1) (Q:=t) (Y:=Y) d.symm (by omega) (by omega);rw[G]at w1;obtain⟨x,c⟩:∃x,(f*4294967296+u0)/Y=x:=⟨_,rfl⟩;have w0:=w_un (u:=f) (u1:=u0) (Q:=x) (Y:=Y) c.symm (by omega) (by omega);have W:t<4294967296:=by rw[<-d];exact kn_lt T c1
  have V:x<4294967296:=by rw[<-c];exact kn_lt A c0
  rw[d,G,c]at k;have last:kW.r1 (hi:Int) lo y K (s:Int) (t:Int) (x:Int) H:=by
   unfold kW.r1;simp only[es,em,b,i,ey,h,O,F,fv,E,D,w1,w0];refine⟨by omega,?_⟩;have ea:u64.wrap ((u64.wrap ((t:Int)*4294967296))+(x:Int))=((t*4294967296+x:Nat):Int):=by grind [fw]
   rw[ea,r8];exact k
  have I:kW.r3 (hi:Int) lo y K (s:Int) (t:Int) H:=by
   unfold kW.r3;simp only[es,em,b,i,ey,h,O,F,fv,E,D,w1,tdivN];obtain⟨i1,i2,i3⟩:=N f A;obtain⟨n1,n2,n3,n4⟩:=DU (y0:=y0) (u:=f) (u1:=u0) b1 b0 (by omega) c0;rw[w,c]at n3;refine⟨by omega,λh0 M=>⟨λa q0 H'=>H'=H/\∃q r:Nat,q0=q/\a=r/\q*y1+r=f/\r<4294967296/\x<=q/\q<=4294967297,λa _ _=>4294967296-a.toNat,?_,?_⟩⟩
   .rw [i1,i2];exact⟨rfl,_,_,rfl,rfl,n1,i3,n3,n4⟩
   rintro a q0 H' ⟨rfl,q,r,rfl,rfl,P,C,R,B⟩;simp only[es,em,b,i,ey,h,O,F,fv,E,D];refine⟨λe=>?_,λe=>?_⟩
   .have e:=(cond q r u0 C c0).1 e;have hd:=kn_dec (y0:=y0) (u:=f) (u1:=u0) b1 (by omega) c0 P e;rw[w,c]at hd;obtain⟨p,rfl⟩:∃p,q=p+1:=⟨q-1,by omega⟩;have j:p*y1+(r+y1)=f:=by grind
    obtain⟨e1,e2⟩:=J (p+1) r (by omega) C B;rw[Nat.add_sub_cancel]at e1 hd;rw[e1,e2];refine⟨λm=>?_,λm=>⟨⟨trivial,_,_,rfl,rfl,j,?_,hd.2,by omega⟩,?_⟩⟩
    .simp only[V5]at m;have n:=DW (y0:=y0) (u:=f) (u1:=u0) b1 b0 j (by grind) (by omega) (by omega);rw[w,c]at n;rw[n];exact M _ _ last
    .grind
    omega
   .have e:¬(4294967296<=q\/4294967296*r+u0<q*y0):=λhh=>by grind
    have n:=DV (y0:=y0) (u:=f) (u1:=u0) b1 P (by grind) (by omega);rw[w,c]at n;rw[n];exact M _ _ last
  simp only[es,em,b,i,ey,h,O,F,fv,E,D,tdivN];obtain⟨i1,i2,i3⟩:=N u T;obtain⟨n1,n2,n3,n4⟩:=DU (y0:=y0) (u:=u) (u1:=u1) b1 b0 (by omega) c1;rw[w,d]at n3;refine⟨by omega,by decide,by omega,by omega,by omega,by decide,by omega,λj2 L=>⟨λq1 a H'=>H'=H/\∃q r:Nat,q1=q/\a=r/\q*y1+r=u/\r<4294967296/\t<=q/\q<=4294967297,λ_ a _=>4294967296-a.toNat,?_,?_⟩⟩
  .rw [i1,i2];exact⟨rfl,_,_,rfl,rfl,n1,i3,n3,n4⟩
  rintro q1 a H' ⟨rfl,q,r,rfl,rfl,P,C,R,B⟩;simp only[es,em,b,i,ey,h,O,F,fv,E,D];refine⟨λe=>?_,λe=>?_⟩
  .have e:=(cond q r u1 C c1).1 e;have hd:=kn_dec (y0:=y0) (u:=u) (u1:=u1) b1 (by omega) c1 P e;rw[w,d]at hd;obtain⟨p,rfl⟩:∃p,q=p+1:=⟨q-1,by omega⟩;have j:p*y1+(r+y1)=u:=by grind
   obtain⟨e1,e2⟩:=J (p+1) r (by omega) C B;rw[Nat.add_sub_cancel]at e1 hd;rw[e1,e2];refine⟨λm=>?_,λm=>⟨⟨trivial,_,_,rfl,rfl,j,?_,hd.2,by omega⟩,?_⟩⟩
   .simp only[V5]at m;have n:=DW (y0:=y0) (u:=u) (u1:=u1) b1 b0 j (by grind) (by omega) (by omega);rw[w,d]at n;rw[n];exact L _ _ I
   .grind
   omega
  .have e:¬(4294967296<=q\/4294967296*r+u1<q*y0):=λhh=>by grind
   have n:=DV (y0:=y0) (u:=u) (u1:=u1) b1 P (by grind) (by omega);rw[w,d]at n;rw[n];exact L _ _ I
theorem EL{hi lo y:Nat}(j:hi<y)(e:lo<18446744073709551616)(a:y<18446744073709551616)
  (k:K (.tuple #[.int .u64 (((hi*18446744073709551616+lo)/y:Nat):Int),.int .u64 (((hi*18446744073709551616+lo)%y:Nat):Int)]) H) :
  CF 124 #[.int .u64 (hi:Nat),.int .u64 (lo:Nat),.int .u64 (y:Nat)] H K:=by
 refine OR ?_;refine λu m=>⟨λd=>?_,λ_=>m _ ?_⟩
 .grind
 refine λn c=>⟨λd=>?_,λ_=>c _ ?_⟩
 .grind
 by_cases h0:hi=0
 .subst h0;unfold kW.r5;refine⟨λ_=>⟨by omega,by omega,?_⟩,λd=>?_⟩
  .rw [tdivN,tmodN,u64n (Nat.lt_of_le_of_lt (Nat.div_le_self _ _) e)];rw[WG,VB]at k;exact k
  .exfalso;simp at d
 .obtain⟨hs,b,f⟩:=norm_y (y:=y) (by omega) a;obtain⟨h,i⟩:=norm_u hs j e b;have t:=norm_num (hi:=hi) (lo:=lo) (s:=64-bitLen y) (by omega) e;refine div_core (v:=lo*2^(64-bitLen y)%18446744073709551616) hs b f h (W4 _ (by decide)) h0 ?_ ?_ i (Pz a) ?_
  .rw [<-u64n b,Int.natCast_mul];simp
  .grind [u64m]
  .rw [t,Nat.mul_div_mul_right _ _ (WP _),Nat.mul_mod_mul_right,Nat.mul_div_cancel _ (WP _)];exact k
theorem EM{a b c:Int}{up:Bool}(s:aG a)(hb:aG b)(u:aG c)(k:K (.tuple #[aB (oL a b c up).1,aB (oL a b c up).2]) H) :
  CF 459 #[aB a,aB b,aB c,.bool up] H K:=by
 refine Oj ?_;unfold oL at k;have v:zabs a<18446744073709551616:=by grind [zabs,aG]
 have x:zabs b<18446744073709551616:=by grind [zabs,aG]
 refine⟨λt=>?_,λt=>?_⟩
 .rw [V1 (by grind)]at k;exact k
 .have m:¬c<1:=by grind
  rw[Vz m]at k;obtain⟨cn,rfl⟩:∃cn:Nat,c=cn:=⟨c.toNat,by omega⟩;have i:cn<18446744073709551616:=by grind [aG]
  rw[u64n i];rw[VL]at k;refine⟨_,EI s,_,EI hb,_,_,Pw v x,?_⟩;have w:zabs a*zabs b/18446744073709551616*18446744073709551616+zabs a*zabs b%18446744073709551616=zabs a*zabs b:=Nat.div_add_mod' _ _;have j:zabs a*zabs b%18446744073709551616<18446744073709551616:=W4 _ (by decide);generalize zabs a*zabs b/18446744073709551616=hi at *;generalize zabs a*zabs b%18446744073709551616=lo at *;generalize zabs a*zabs b=P at *;refine⟨λf=>?_,λf=>?_⟩
  .rw [V1 (by grind)]at k;exact k
  .have f:¬cn<=hi:=by grind
   rw[Vz f]at k;refine EL (by omega) j i ⟨_,_,rfl,?_⟩;rw[w];dsimp only at k;refine⟨λd=>?_,λd=>λy n=>?_⟩
   .rw [V1 (by grind)]at k;exact k
   .have d:¬9223372036854775808<P/cn:=by grind
    rw[Vz d]at k;have e1:u64.wrap (((P/cn:Nat):Int)+1)=((P/cn+1:Nat):Int):=(show ∀q:Nat,¬9223372036854775808<q->u64.wrap ((q:Int)+1)=((q+1:Nat):Int) from λq h=>by grind [fw]) _ d
    have e2:decide (((P%cn:Nat):Int)=0)=decide (P%cn=0):=by
     grind
    rw[e1,e2];refine⟨λe=>n _ _ ?_,λe=>n _ _ ?_⟩
    .rw [V1 e]at k;exact⟨_,_,EJ (Nat.lt_of_le_of_lt (Nat.succ_le_succ (Nat.le_of_not_lt d)) (by decide)),k⟩
    .rw [e,Vz Bool.false_ne_true]at k;exact⟨_,_,EJ (Nat.lt_of_le_of_lt (Nat.le_of_not_lt d) (by decide)),k⟩
theorem P0{rho:Int}:bO Tryz.prog 458 #[aB rho] H (.bool (decide (iT rho))):=by
 refine cM 458 28 ⟨congrArg Value.bool ?_,rfl⟩
 grind
theorem EN{x rho:Int}(i:aG x)(k:K (.tuple #[aB (lowS x rho).1,aB (lowS x rho).2]) H):CF 416 #[aB x,aB rho] H K:=by
 refine cM 416 125110962460 ?_;unfold lowS at k;refine⟨_,λ_=>P0,λe=>?_,λe=>?_⟩
 .rw [V1 (by grind)]at k;exact k
 .have a:¬(x < -4611686018427387904\/4611686018427387904<x\/¬iT rho):=by
   grind
  rw[Vz a]at k;have b:iT rho:=by
   rcases Classical.em (iT rho) with h|h
   .exact h
   .exact V0 (.inr (.inr h)) a
  have f:¬x < -4611686018427387904/\¬4611686018427387904<x:=⟨λh=>a (.inl h),λh=>a (.inr (.inl h))⟩
  unfold iT at b;refine⟨λd=>?_,λd=>?_⟩
  .have c:0<x:=by grind
   rw[V1 c]at k
   conv=>whnf
   rw[aJ (x:=x-1),aJ (x:=1000000+rho)];exact EM (by unfold aG;omega) (by unfold aG;omega) (by unfold aG;omega) ⟨_,_,rfl,k⟩
  .have c:¬0<x:=by grind
   rw[Vz c]at k
   conv=>whnf
   rw[aJ (x:=1-x),aJ (x:=1000000-rho)];exact EM (by unfold aG;omega) (by unfold aG;omega) (by unfold aG;omega) ⟨_,_,rfl,k⟩
theorem P1{x rho:Int}(c:aG x)(k:K (.tuple #[aB (oM x rho).1,aB (oM x rho).2]) H):CF 417 #[aB x,aB rho] H K:=by
 refine cM 417 7452 ?_;unfold oM at k;refine⟨λb=>?_,λb=>?_⟩
 .rw [V1 (by grind)]at k;exact k
 .have a:¬(x < -4611686018427387904\/4611686018427387904<x):=by grind
  rw[Vz a]at k;have e:i64.wrap (0-x)=-x:=by grind [aJ]
  conv=>whnf
  rw[e];exact EN (by unfold aG;omega) ⟨_,_,rfl,k⟩
end
structure Gd where
 width:Int
 policy:Int
 most:Int
deriving DecidableEq
abbrev tG(g:Gd):Value:=.agg #[.int .i64 g.width,.int .i64 g.policy,.int .i64 g.most]
def Gd.ok(g:Gd):Prop:=1<=g.width/\g.width<=1099511627776/\0<=g.policy/\g.policy<=3/\0<=g.most/\g.most<=4611686018427387903
instance (g:Gd):Decidable g.ok:=by unfold Gd.ok;infer_instance
def eZ(g:Gd)(t:Int):Int:=
 if g.ok then (if Int.tmod t g.width<0 then i64.wrap (i64.wrap (Int.tdiv t g.width)-1) else i64.wrap (Int.tdiv t g.width)) else 0
def du(g:Gd)(x:Gp):Int×Int×Int:=
 if g.ok then (if x.ok then (eZ g x.lo,eZ g x.hi,0) else (0,0,10)) else (0,0,21)
def lU(g:Gd)(x:Gp):Int×Int:=
 if (du g x).2.2≠0 then (0,(du g x).2.2) else
 if u64.wrap g.most<vS x then (0,17) else
 if g.policy=0 then ((du g x).1,0) else
 if g.policy=1 then ((du g x).2.1,0) else
 if g.policy=2 then (eZ g (midS x),0) else
 if (du g x).1≠(du g x).2.1 then (0,17) else ((du g x).1,0)
structure Smp where
 asked:Int
 got:Int
 sent:Int
 came:Int
deriving DecidableEq
def Smp.z:Smp:=⟨0,0,0,0⟩
abbrev fP(s:Smp):Xb:=[.int .i64 s.asked,.int .i64 s.got,.int .i64 s.sent,.int .i64 s.came]
abbrev aggSm(s:Smp):Value:=.agg #[.int .i64 s.asked,.int .i64 s.got,.int .i64 s.sent,.int .i64 s.came]
theorem kX(s:Smp):(fP s).length=4:=rfl
theorem EO(s:Smp):cK (fP s)=true:=rfl
abbrev gm(t:Int):Prop:=0<=t/\t<=4611686018427387903
def Smp.ok(s:Smp):Prop:=gm s.asked/\gm s.got/\gm s.sent/\gm s.came/\s.asked<=s.came/\s.got<=s.sent
instance (s:Smp):Decidable s.ok:=by unfold Smp.ok;infer_instance
def Smp.wf(s:Smp):Prop:=aG s.asked/\aG s.got/\aG s.sent/\aG s.came
theorem Smp.ok.wf{s:Smp}(h:s.ok):s.wf:=by unfold Smp.ok gm at h;unfold Smp.wf aG;omega
def ie(s:Smp)(stamp rho:Int):Gp×Int:=
 if ¬s.ok then (Gp.z,10) else
 if ¬gm stamp\/¬iT rho then (Gp.z,11) else
 let low:=(lowS (stamp-s.got) rho).1
 let high:=(oM (stamp-s.sent) rho).1
 let lo:=if 0>i64.wrap (s.asked+low) then 0 else i64.wrap (s.asked+low)
 let h1:=if (iS s.came high).2≠0 then 4611686018427387903 else (iS s.came high).1
 let hi:=if 4611686018427387903<h1 then 4611686018427387903 else h1
 if hi<lo then (Gp.z,13) else (⟨lo,hi⟩,0)
structure Ck where
 rho:Int
 least:Int
 held:Bool
 streak:Int
 smps:List Smp
deriving DecidableEq
def ig(rho stamp:Int)(s:Smp):Gp:=if (ie s stamp rho).2≠0 then ⟨1,0⟩ else (ie s stamp rho).1
def qb(l:List Gp):Bool:=decide (0<l.length)&&decide ((kb l).2=0)
def ke(c:Ck)(s:Smp):Ck×Int:=
 if ¬s.ok then (c,10) else
 let l:=if 8<c.smps.length+1 then (c.smps++[s]).drop 1 else c.smps++[s]
 let gs:=l.map (ig c.rho s.sent)
 if qb gs then
  let st:=if c.streak<9223372036854775807 then c.streak+1 else c.streak
  ({ c with streak:=st,held:=if c.least<=st then false else c.held,smps:=l },0)
 else ({ c with held:=true,streak:=0,smps:=if (ig c.rho s.sent s).ok then [s] else [] },21)
def ne(rho stamp:Int):List Smp->List Gp×Int
 | []=>([],0)
 | s::r=>if (ie s stamp rho).2≠0 then ([],(ie s stamp rho).2) else ((ie s stamp rho).1::(ne rho stamp r).1,(ne rho stamp r).2)
def ckAt(c:Ck)(stamp:Int):Gp×Int:=
 if c.smps=[] then (Gp.z,19) else
 if ¬gm stamp then (Gp.z,11) else
 if (ne c.rho stamp c.smps).2≠0 then (Gp.z,(ne c.rho stamp c.smps).2) else kb (ne c.rho stamp c.smps).1
structure CkOk(c:Ck):Prop where
 len:c.smps.length<=8
 ok:∀s∈c.smps,s.ok
 st:0<=c.streak/\c.streak<=9223372036854775807
theorem ckAdd_ok{c:Ck}(h:CkOk c)(s:Smp):CkOk (ke c s).1:=by
 unfold ke
 split
 .exact h
 .rename_i hs;have hs:s.ok:=Decidable.not_not.1 hs;have e:∀x∈(if 8<c.smps.length+1 then (c.smps++[s]).drop 1 else c.smps++[s]),x.ok:=by
   intro x a;have:x∈c.smps++[s]:=by
    grind
   rcases VJ.1 this with b|b
   .exact h.ok x b
   .rw [VH]at b;rw[b];exact hs
  have d:(if 8<c.smps.length+1 then (c.smps++[s]).drop 1 else c.smps++[s]).length<=8:=by
   have:=h.len
   grind
  dsimp only;generalize (if 8<c.smps.length+1 then (c.smps++[s]).drop 1 else c.smps++[s])=l at e d ⊢
  by_cases hag:qb (l.map (ig c.rho s.sent))=true
  .rw [V1 hag];exact⟨d,e,by have:=h.st;grind⟩
  .rw [Vz hag];refine⟨?_,?_,by grind⟩
   .grind
   .dsimp only
    split
    .intro x a;rw[VH]at a;rw[a];exact hs
    .intro x a;cases a
section
variable {F L:List aD}{H:aC}{K:KQ}
theorem rH{g:Gp}(h:aA H F)(k:∀H',aA H' F->K (.bool (decide g.ok)) H'):CF 357 #[jl g] H K:=by
 refine cM 357 28 ?_;refine h.al λ_ _ h=>?_;refine⟨_,Ra1,?_⟩;refine⟨_,Ra1,?_⟩
 exact k _ h.tl
theorem P2{a b:Gp}(h:aA H F)(k:∀H',aA H' F->K (jl (meet2 a b)) H'):CF 461 #[jl a,jl b] H K:=by
 refine cM 461 28 ?_;refine h.al λ_ _ h=>?_;refine h.al λ_ _ h=>?_;refine h.al λ_ _ h=>?_;refine⟨_,Ra3,?_⟩;refine⟨_,Ra3,?_⟩;refine⟨_,Ra3,?_⟩;refine⟨_,Ra3,?_⟩;refine St3 h λ_ h=>?_;refine⟨_,_,Rs3,?_⟩
 exact k _ h.tl.tl.tl
theorem P3{s:Gp}{a:Xa}{c:Nat}{gs:List Gp}(h:aA H F)(u:∀H,aA H F->aN H a (aF jk gs))(A:gs.length<=1000000)
  (k:∀H',aA H' F->K (.tuple #[jl (lT s gs).1,aB (lT s gs).2]) H') :
  CF 460 #[jl s,.slice a gs.length c,.func (.func 461) #[] #[]] H K:=by
 refine cN 460 0x1215612399251d44dc [[(12,sI)]] ?_;refine h.al λb _ h=>?_
 refine h.al λb1 _ h=>?_
 refine⟨λi H'=>∃(j:Nat) (t:Gp),i=j/\j<=gs.length/\lT s gs=lT t (gs.drop j)/\aA H' (cellsA b1 [aB 0,aB 0] 140::cellsA b (jk t) 140::F),λi _=>gs.length-i.toNat,⟨0,s,rfl,VE _,rfl,h⟩,?_⟩
 rintro i y ⟨j,t,rfl,x,e,h⟩;refine⟨λv=>?_,λv=>?_⟩
 .have f:j<gs.length:=by grind
  have n:=u _ h.tl.tl;rw[Wv f,lT]at e;refine⟨⟨by omega,by omega⟩,_,_,n.some vR (by omega) f,_,_,n.els vR f,?_⟩;refine h.al λb3 _ h=>?_
  refine St3 h λ_ h=>?_;refine⟨_,_,Rs3,?_⟩
  refine rH (g:=gs[j]) h λH2 h=>⟨_,rfl,λd=>?_,λd=>?_⟩
  .have:¬(gs[j]).ok:=by grind
   rw[Vz this]at e;refine St3 h λ_ h=>?_;refine⟨_,_,Rs3,?_⟩
   have:=k _ h.tl.tl.tl;rw[e]at this;exact this
  .have:(gs[j]).ok:=by simpa using d
   rw[V1 this]at e;refine⟨_,_,Rs3,?_⟩;refine⟨_,_,Rs3,?_⟩;refine⟨by kernel_rfl,?_⟩;refine P2 (a:=t) (b:=gs[j]) h λB h=>⟨_,_,rfl,?_⟩
   refine St3 h λ_ h=>?_
   have w:i64.wrap ((j:Int)+1)=((j+1:Nat):Int):=by grind [aJ]
   conv=>whnf
   rw[w];exact⟨⟨j+1,_,rfl,f,e,h.tl⟩,by grind⟩
 .have m:gs.length<=j:=by grind
  rw[List.drop_of_length_le m,lT]at e;refine⟨_,_,Rs2,?_⟩;refine rH (g:=t) h λH2 h=>⟨_,rfl,λd=>?_,λd=>?_⟩
  .have:¬t.ok:=by grind
   rw[Vz this]at e;refine St2 h λ_ h=>?_;refine⟨_,_,Rs2,?_⟩
   have:=k _ h.tl.tl;rw[e]at this;exact this
  .have:t.ok:=by simpa using d
   rw[V1 this]at e
   repeat (first|refine St2 h λ_ h=>?_|refine⟨_,_,Rs2,?_⟩)
   have:=k _ h.tl.tl;rw[e]at this;exact this
theorem tH{a:Xa}{c:Nat}{gs:List Gp}(h:aA H F)(b:∀H,aA H F->aN H a (aF jk gs))(d:gs.length<=1000000)
  (k:∀H',aA H' F->K (.tuple #[jl (kb gs).1,aB (kb gs).2]) H') :
  CF 419 #[.slice a gs.length c] H K:=by
 refine cM 419 284 ?_;refine h.al λ_ _ h=>?_;refine h.al λ_ _ h=>?_;refine St2 h λ_ h=>?_;refine⟨_,_,Rs2,?_⟩
 refine P3 (s:=⟨_,_⟩) h (λH h=>b H h.tl.tl) d λH' h=>⟨_,_,_,rfl,?_⟩
 refine St2 h λ_ h=>?_;refine⟨_,_,Rs2,?_⟩
 exact k _ h.tl.tl
theorem P4{a:Xa}{c:Nat}{gs:List Gp}(h:aA H F)(b:∀H,aA H F->aN H a (aF jk gs))(d:gs.length<=1000000)
  (k:∀H',aA H' F->K (.bool (qb gs)) H') :
  CF 356 #[.slice a gs.length c] H K:=by
 refine cM 356 284 ?_;refine tH h b d λH' h=>⟨_,_,_,rfl,?_⟩
 refine h.al λ_ _ h=>?_;refine St1 h λ_ h=>?_
 have:=k _ h.tl;unfold qb at this;rw[show decide (0<gs.length)=decide (0<(gs.length:Int)) by grind]at this;exact this
theorem P5{g:Gp}(h:aA H F)(k:∀H',aA H' F->K (.int .u64 (vS g)) H'):CF 464 #[jl g] H K:=by
 refine cM 464 476 ?_;refine h.al λ_ _ h=>?_;refine⟨_,_,Rs1,?_⟩
 refine rH (g:=g) h λH' h=>⟨_,rfl,λa=>?_,λa=>?_⟩
 .have:¬g.ok:=by grind
  unfold vS at k;rw[Vz this]at k;exact k _ h.tl
 .have:g.ok:=by simpa using a
  unfold vS at k;rw[V1 this]at k;refine⟨_,Ra1,?_⟩;refine⟨_,Ra1,?_⟩;exact k _ h.tl
theorem Mid_spec{g:Gp}(h:aA H F)(k:∀H',aA H' F->K (aB (midS g)) H'):CF 465 #[jl g] H K:=by
 refine cM 465 476 ?_;refine h.al λ_ _ h=>?_;refine⟨_,_,Rs1,?_⟩
 refine rH (g:=g) h λH' h=>⟨_,rfl,λa=>?_,λa=>?_⟩
 .have:¬g.ok:=by grind
  unfold midS at k;rw[Vz this]at k;exact k _ h.tl
 .have:g.ok:=by simpa using a
  unfold midS at k;rw[V1 this]at k;refine⟨_,Ra1,?_⟩;refine⟨_,Ra1,?_⟩;refine⟨_,Ra1,?_⟩;refine⟨_,Ra1,?_⟩;refine⟨by decide,?_⟩;exact k _ h.tl
theorem ze{g:Gd}(h:aA H F)(k:∀H',aA H' F->K (.bool (decide g.ok)) H'):CF 331 #[tG g] H K:=by
 refine cM 331 28 ?_
 repeat (first|refine h.al λ_ _ h=>?_|refine⟨_,Ra1,?_⟩|refine⟨_,λ_=>Ra1,?_⟩)
 have:=k _ h.tl;have e:decide g.ok=((((((decide (1<=g.width))&&(decide (g.width<=1099511627776)))&&(decide (0<=g.policy)))&&(decide (g.policy<=3)))&&(decide (0<=g.most)))&&(decide (g.most<=4611686018427387903))):=by
  rw[Wd];simp only[V4,V5]
  constructor
  .rintro⟨h1,h2,h3,h4,h5,h6⟩;grind
  .rintro⟨⟨⟨⟨⟨h1,h2⟩,h3⟩,h4⟩,h5⟩,h6⟩;exact⟨h1,h2,h3,h4,h5,h6⟩
 rw[e]at this;exact this
theorem EP{g:Gd}(h:aA H F)(k:∀H',aA H' F->K (.tuple #[tG (if g.ok then g else ⟨0,0,0⟩),aB (if g.ok then 0 else 11)]) H') :
  CF 222 #[aB g.width,aB g.policy,aB g.most] H K:=by
 refine cM 222 4572 ?_;refine h.al λ_ _ h=>?_;refine h.al λ_ _ h=>?_;refine St2 h λ_ h=>?_;refine⟨_,_,_,Rs2,?_⟩
 refine ze (g:=g) h λH' h=>⟨_,rfl,λa=>?_,λa=>?_⟩
 .have:¬g.ok:=by grind
  rw[Vz this,Vz this]at k;refine St2 h λ_ h=>?_;refine⟨_,_,_,Rs2,?_⟩
  exact k _ h.tl.tl
 .have:g.ok:=by simpa using a
  rw[V1 this,V1 this]at k
  repeat (first|refine St2 h λ_ h=>?_|refine⟨_,_,_,Rs2,?_⟩)
  exact k _ h.tl.tl
theorem vT{g:Gd}{t:Int}(h:aA H F)(k:∀H',aA H' F->K (aB (eZ g t)) H'):CF 367 #[tG g,aB t] H K:=by
 refine cN 367 7803597980 [[(5,sI)]] ?_;refine h.al λ_ _ h=>?_;refine⟨_,_,_,Rs1,?_⟩
 refine ze (g:=g) h λH' h=>⟨_,rfl,λc=>?_,λc=>?_⟩
 .have:¬g.ok:=by grind
  unfold eZ at k;rw[Vz this]at k;exact k _ h.tl
 .have e:g.ok:=by simpa using c
  unfold eZ at k;rw[V1 e]at k;have d:g.width≠0:=by grind [Gd.ok]
  refine⟨_,h.r 0,d,_,h.r 0,d,λf b=>⟨λa=>b _ _ ?_,λa=>b _ _ ?_⟩⟩
  .skip
   rw[V1 (by grind)]at k;exact k _ h.tl
  .skip
   rw[Vz (by grind)]at k;exact k _ h.tl
theorem ER{g:Gd}{x:Gp}(h:aA H F)(k:∀H',aA H' F->K (.tuple #[aB (du g x).1,aB (du g x).2.1,aB (du g x).2.2]) H') :
  CF 421 #[tG g,jl x] H K:=by
 refine cM 421 7644 ?_;refine h.al λ_ _ h=>?_;refine h.al λ_ _ h=>?_;refine⟨_,_,_,Rs2,?_⟩
 unfold du at k;refine ze (g:=g) h λH' h=>⟨_,rfl,λa=>?_,λa=>?_⟩
 .have:¬g.ok:=by grind
  rw[Vz this]at k;exact k _ h.tl.tl
 .have:g.ok:=by simpa using a
  rw[V1 this]at k;refine⟨_,_,Rs2,?_⟩;refine rH (g:=x) h λH' h=>⟨_,rfl,λa=>?_,λa=>?_⟩
  .have:¬x.ok:=by grind
   rw[Vz this]at k;exact k _ h.tl.tl
  .have:x.ok:=by simpa using a
   rw[V1 this]at k
   repeat (first|refine⟨_,Ra2,?_⟩|refine⟨_,_,_,Rs2,?_⟩)
   refine vT (g:=g) h λH' h=>⟨_,rfl,h.r 0,h.q 1,?_⟩
   refine vT (g:=g) h λH' h=>⟨_,rfl,?_⟩
   exact k _ h.tl.tl
theorem P6{g:Gd}{x:Gp}(h:aA H F)(k:∀H',aA H' F->K (.tuple #[aB (lU g x).1,aB (lU g x).2]) H') :
  CF 423 #[tG g,jl x] H K:=by
 refine cM 423 0x11dd21513c13cbdc ?_;refine h.al λ_ _ h=>?_;refine h.al λ_ _ h=>?_;refine⟨_,_,_,Rs2,?_⟩;refine⟨_,_,Rs2,?_⟩
 unfold lU at k;refine ER (g:=g) (x:=x) h λH' h=>⟨_,_,_,rfl,λa=>?_,λa=>?_⟩
 .rw [V1 (by grind)]at k;exact k _ h.tl.tl
 .rw [Vz (by grind)]at k
  repeat (first|refine⟨_,Ra2,?_⟩|refine⟨_,_,Rs2,?_⟩)
  refine P5 (g:=x) h λH' h=>⟨_,rfl,h.r 1,λa=>?_,λa=>?_⟩
  .rw [V1 (by grind)]at k;exact k _ h.tl.tl
  .rw [Vz (by grind)]at k;refine⟨_,Ra2,?_⟩;refine⟨λa=>?_,λa=>?_⟩
   .rw [V1 (by grind)]at k;exact k _ h.tl.tl
   rw[Vz (by grind)]at k;refine⟨λa=>?_,λa=>?_⟩
   .rw [V1 (by grind)]at k;exact k _ h.tl.tl
   rw[Vz (by grind)]at k;refine⟨λa=>?_,λa=>?_⟩
   .rw [V1 (by grind)]at k;refine⟨_,_,_,Rs2,?_⟩;refine⟨_,_,Rs2,?_⟩;refine Mid_spec (g:=x) h λH' h=>⟨_,rfl,h.q 1,?_⟩
    refine vT (g:=g) h λH' h=>⟨_,rfl,?_⟩
    exact k _ h.tl.tl
   rw[Vz (by grind)]at k;refine⟨λa=>?_,λa=>?_⟩
   .rw [V1 (by grind)]at k;exact k _ h.tl.tl
   .rw [Vz (by grind)]at k;exact k _ h.tl.tl
end
def ckA(b:Nat)(c:Ck):aD:=exS λp:Xa×Nat=>cellsA b [.int .i64 c.rho,.int .i64 c.least,.bool c.held,.int .i64 c.streak,.slice p.1 c.smps.length p.2] 513*slA 167 4 p.1 c.smps.length p.2 (aF fP c.smps)
theorem gC{H:aC}{b:Nat}{c:Ck}{L:List aD}:aA H (ckA b c::L)↔∃a k,aA H (cellsA b [.int .i64 c.rho,.int .i64 c.least,.bool c.held,.int .i64 c.streak,.slice a c.smps.length k] 513::slA 167 4 a c.smps.length k (aF fP c.smps)::L):=by
 unfold ckA;rw[cy]
 constructor
 .grind [eX]
 .rintro⟨a,k,h⟩;exact⟨(a,k),eX.2 h⟩
theorem aN.subK{H:aC}{a:Xa}{cs:Xb}{k c sz:Nat}(h:aN H a cs)(n:cs.length<=c*sz):aN H (bM a k c sz) (cs.drop (k*sz)):=by
 intro j v m;have b:aI cs (k*sz+j)=Option.some v:=by
  grind [fJ]
 obtain⟨f,s⟩:=h (k*sz+j) v b;have i:=lI b;have d:c≠k:=by grind
 have e:bM a k c sz=Option.some ⟨aW a,aT a+k*sz,none⟩:=by
  unfold bM;rw[nO,f,VT,fu];rfl
 rw[e];refine⟨rfl,?_⟩
 grind [aW,aT]
theorem sl166:SlT Tryz.prog 462 167 4 32:=eG (by kernel_rfl)
theorem sl239:SlT Tryz.prog 544 140 2 16:=eG (by kernel_rfl)
section
variable {F L:List aD}{H:aC}{K:KQ}
theorem nh{t:Int}:bO Tryz.prog 415 #[aB t] H (.bool (decide (gm t))):=by
 refine cM 415 28 ⟨congrArg Value.bool ?_,rfl⟩
 grind
theorem ES{t:Int}:bO Tryz.prog 332 #[aB t] H (.bool (decide (iT t))):=by
 refine cM 332 28 ⟨congrArg Value.bool ?_,rfl⟩
 grind
theorem zf{s:Smp}(h:aA H F)(k:∀H',aA H' F->K (.bool (decide s.ok)) H'):CF 348 #[aggSm s] H K:=by
 refine cM 348 28 ?_;refine h.al λb _ h=>?_
 refine⟨_,h.r 0,_,nh,_,λ_=>h.r 0,_,λ_=>nh,_,λ_=>h.r 0,_,λ_=>nh,_,λ_=>h.r 0,_,λ_=>nh,_,λ_=>h.r 0,_,λ_=>h.r 0,_,λ_=>h.r 0,_,λ_=>h.r 0,?_⟩
 have:=k _ h.tl;have e:decide s.ok=(((((decide (gm s.asked)&&decide (gm s.got))&&decide (gm s.sent))&&decide (gm s.came))&&(decide (s.asked<=s.came)))&&(decide (s.got<=s.sent))):=by
  rw[Wd];simp only[V4,V5]
  constructor
  .rintro⟨h1,h2,h3,h4,h5,h6⟩;grind
  .rintro⟨⟨⟨⟨⟨h1,h2⟩,h3⟩,h4⟩,h5⟩,h6⟩;exact⟨h1,h2,h3,h4,h5,h6⟩
 rw[e]at this;exact this
theorem vU{s:Smp}{stamp rho:Int}(h:aA H F)(k:∀H',aA H' F->K (.tuple #[jl (ie s stamp rho).1,aB (ie s stamp rho).2]) H') :
  CF 355 #[aggSm s,aB stamp,aB rho] H K:=by
 refine Oz ?_;refine h.al λb0 _ h=>?_
 refine h.al λb1 _ h=>?_
 refine⟨_,_,_,_,h.q 1,?_⟩;unfold ie at k;refine zf (s:=s) h λH' h=>⟨_,rfl,λa=>?_,λa=>?_⟩
 .have:¬s.ok:=by grind
  rw[V1 this]at k;refine St2 h λ_ h=>?_;refine⟨_,_,Rs2,?_⟩
  exact k _ h.tl.tl
 .have hs:s.ok:=by simpa using a
  rw[Vz (by grind)]at k;have b:=hs.wf;refine⟨_,nh,_,λ_=>ES,λa=>?_,λa=>?_⟩
  .have:¬gm stamp\/¬iT rho:=by
    grind
   rw[V1 this]at k;refine St2 h λ_ h=>?_;refine⟨_,_,Rs2,?_⟩
   exact k _ h.tl.tl
  .have d:¬(¬gm stamp\/¬iT rho):=by
    grind
   rw[Vz d]at k;have c:gm stamp:=by
    rcases Classical.em (gm stamp) with h|h
    .exact h
    .exact V0 (.inl h) d
   dsimp only at k;have f:=hs;unfold Smp.ok gm at hs;unfold gm at c;refine⟨_,Ra2,?_⟩;dsimp only;rw[aJ (x:=stamp-s.got)];refine EN (by unfold aG;omega) ⟨_,_,rfl,?_⟩;refine⟨_,Ra2,?_⟩;dsimp only;rw[aJ (x:=stamp-s.sent)];refine P1 (by unfold aG;omega) ⟨_,_,rfl,?_⟩;refine⟨_,h.r 1,_,h.r 1,_,_,EH b.2.2.2 (highS_wf _ _),?_⟩;have last:∀hi:Int,hi=(if (iS s.came (oM (stamp-s.sent) rho).1).2≠0 then 4611686018427387903 else (iS s.came (oM (stamp-s.sent) rho).1).1)->yT.r1 K b1 (lowS (stamp-s.got) rho).1 s.asked hi H':=by
    intro hi i;rw[<-i]at k;unfold yT.r1;refine⟨λa=>?_,λa=>?_⟩
    .rw [V1 (by grind)]at k;refine St2 h λ_ h=>?_;refine⟨_,_,Rs2,?_⟩
     exact k _ h.tl.tl
    .rw [Vz (by grind)]at k;refine St2 h λ_ h=>?_;refine⟨_,_,Rs2,?_⟩
     exact k _ h.tl.tl
   refine λj e=>⟨λa=>e _ _ (last _ ?_),λa=>e _ _ (last _ ?_)⟩
   .grind
   grind
theorem ET{rho least:Int}(h:aA H F)(k1:¬(iT rho/\0<=least/\least<=100)->K (.tuple #[.pointer none,aB 11]) H)
  (k2:iT rho/\0<=least/\least<=100->∀b H',aA H' (ckA b ⟨rho,least,false,0,[]⟩::F)->K (.tuple #[.pointer (some ⟨b,0,none⟩),aB 0]) H') :
  CF 224 #[aB rho,aB least] H K:=by
 refine cM 224 476 ?_;refine⟨_,ES,λa=>k1 ?_,λa=>?_⟩
 .grind
 .simp only[VN,W8,V5,VG]at a;have h:=h.sl_nil 167 4;refine h.al λb _ h=>?_
  exact k2 ⟨a.1.1,by omega,by omega⟩ _ _ (gC.2 ⟨none,0,h⟩)
theorem tI{b:Nat}{c:Ck}(h:aA H (ckA b c::F)):bO Tryz.prog 256 #[.pointer (some ⟨b,0,none⟩)] H (.bool c.held):=by
 obtain⟨a,n,h⟩:=gC.1 h;exact cM 256 28 ⟨_,h.r 0,rfl,rfl⟩
theorem P7{b:Nat}{c:Ck}(h:aA H (ckA b c::F)):bO Tryz.prog 389 #[.pointer (some ⟨b,0,none⟩)] H (aB c.streak):=by
 obtain⟨a,n,h⟩:=gC.1 h;exact cM 389 28 ⟨_,h.r 0,rfl,rfl⟩
theorem EU{a:Xa}{c:Nat}{l:List Smp}(h:aA H F)(i:∀H,aA H F->aN H a (aF fP l))(v:l.length<=1000000)
  (k:∀d e H',aA H' (slA 167 4 d l.length e (aF fP l)::F)->K (.slice d l.length e) H'):CF 371 #[.slice a l.length c] H K:=by
 refine cM 371 476 ⟨λj=>?_,λj=>?_⟩
 .have:a=none:=by simp_all
  subst this;have u:=nR (i H h);have:l=[]:=by
   have:=congrArg List.length u;rw[dT kX]at this;exact Wi (by grind)
  subst this;exact k none 0 H (h.sl_nil 167 4)
 .refine h.al λb _ h=>?_
  have t:=i _ h.tl;have s:=aA.sl_pt (cs:=[]) h 4 0 rfl;refine aA.append (m:=l.length) sl166 s 0 rfl t (dT kX l) (kS EO l) (by omega) (by omega) λd e H' n=>⟨_,_,_,rfl,?_⟩
  have f:aA H' (slA 167 4 d (0+l.length) e ([]++aF fP l)::F):=n;rw[VB,VZ]at f;have:=k d e H' f;rw[<-VB l.length]at this;exact this
theorem P8{a:Xa}{c:Nat}{l:List Smp}{j:Nat}(u:j<=l.length)(h:aA H (slA 167 4 a l.length c (aF fP l)::F))
  (k:∀H',aA H' (slA 167 4 a (l.length-j) c (aF fP (l.drop j))::F)->K (.slice a (l.length-j) c) H'):CF 354 #[.slice a l.length c,aB 0,aB j] H K:=by
 have t:=h.sl_nc 0 rfl;refine cM 354 18682140 ?_;refine⟨⟨by omega,by omega,by omega,by omega⟩,λm=>?_,λm=>?_⟩
 .have:j=0:=by grind
  subst this;exact k H h
 .have s:0<j:=by grind
  refine⟨⟨by omega,by omega,by omega⟩,⟨by omega,by omega,by omega⟩,?_⟩;have f:=h.sl_rd 0 rfl;have hs:=f.some kX (by omega) (k:=0) (by omega);have e0:bM a 0 c 4=a:=by
   unfold bM;rw[nO,hs,VT,fu];simp
  have e:=f.subK (k:=j) (c:=c) (sz:=4) (by rw[dT kX];omega);rw[ry kX]at e;have d:=h.sl_take 0 rfl 0 (by omega);simp only[WG,W9]at d;show bS Tryz.prog (Builtin.append_ #[462,462] 462 #[.slice (bM a 0 c 4) 0 c,.slice (bM a j c 4) (l.length-j) (c-j)]) H _;rw[e0];refine aA.appendIn sl166 d 0 rfl e (by rw[dT kX,Wb]) (kS EO _) (by omega) λH' n=>⟨_,_,_,rfl,⟨by omega,by omega,by omega⟩,?_⟩
  rw[VB];have b:aA H' (slA 167 4 a (0+(l.length-j)) c ([]++aF fP (l.drop j))::F):=n;rw[VB,VZ]at b;exact aA.clearS sl166 (by kernel_rfl) b 0 rfl (by omega) λ_ v i=>k _ i
theorem zg{b:Nat}{c:Ck}(h:aA H (ckA b c::F))(f:c.smps.length<=1000000)
  (k:∀d e H',aA H' (slA 167 4 d c.smps.length e (aF fP c.smps)::ckA b c::F)->K (.slice d c.smps.length e) H'):CF 288 #[.pointer (some ⟨b,0,none⟩)] H K:=by
 obtain⟨a,n,h⟩:=gC.1 h;refine cM 288 28 ⟨_,_,_,h.r 0,?_⟩;refine EU h (λH h=>h.sl_rd 1 rfl) f λd e H' h=>⟨_,_,_,rfl,k _ _ _ ?_⟩
 have h:=h.o [1,2,0] 3;have h:=gC.2 ⟨_,_,h⟩;exact h.o [1,0] 2
theorem P9{b:Nat}{c:Ck}(h:aA H (ckA b c::F))(e:c.smps.length<=1000000)
  (k:∀d H',aA H' (ckA d c::ckA b c::F)->K (.pointer (some ⟨d,0,none⟩)) H'):CF 265 #[.pointer (some ⟨b,0,none⟩)] H K:=by
 obtain⟨a,n,h⟩:=gC.1 h;refine cM 265 4380 ?_;refine⟨_,_,_,_,_,_,_,h.q 0,?_⟩;refine h.al λ_ _ h=>?_;refine St3 h λ_ h=>?_
 refine⟨_,_,_,h.r 1,?_⟩;refine EU h (λH h=>h.sl_rd 2 rfl) e λf i H' h=>⟨_,_,_,rfl,?_⟩
 refine St4 h λ_ h=>?_
 refine k _ _ ?_;have h:=h.o [1,0,2,3] 4;have h:=gC.2 ⟨_,_,h⟩;have h:=h.o [1,2,0] 3;have h:=gC.2 ⟨_,_,h⟩;exact h.o [1,0] 2
end
theorem dn{p:Prop}[Decidable p](h:(!decide p)=true):¬p:=by grind
theorem dy{p:Prop}[Decidable p](h:(!decide p)=false):p:=by simpa using h
section
variable {F L:List aD}{H:aC}{K:KQ}
theorem PB{b:Nat}{c:Ck}{stamp:Int}(D:c.smps.length<=8)(h:aA H (ckA b c::F))
  (k:∀H',aA H' (ckA b c::F)->K (.tuple #[jl (ckAt c stamp).1,aB (ckAt c stamp).2]) H') :
  CF 425 #[.pointer (some ⟨b,0,none⟩),aB stamp] H K:=by
 obtain⟨a,n,h⟩:=gC.1 h;refine cN 425 0x1dd121561239925128d44c [[(9,sA),(10,sI)],[(6,sS),(33,sI)]] ?_;unfold ckAt at k;refine h.al λb0 _ h=>?_
 refine⟨_,_,_,h.r 1,λd=>?_,λd=>?_⟩
 .have:c.smps=[]:=by simp_all
  rw[V1 this]at k;refine St1 h λ_ h=>?_;refine⟨_,_,Rs1,?_⟩
  exact k _ (gC.2 ⟨_,_,h.tl⟩)
 have u:c.smps≠[]:=by grind
 rw[Vz u]at k;refine⟨_,nh,λd=>?_,λd=>?_⟩
 .have:¬gm stamp:=dn d;rw[V1 this]at k;refine St1 h λ_ h=>?_;refine⟨_,_,Rs1,?_⟩
  exact k _ (gC.2 ⟨_,_,h.tl⟩)
 have w:gm stamp:=dy d;rw[Vz (not_not_intro w)]at k;refine⟨_,_,_,h.r 1,?_⟩;refine h.mk0 sl239 (by omega) (by omega) λm P h=>⟨_,_,_,rfl,_,_,_,h.r 2,?_⟩
 refine⟨λm B x i H'=>∃(j:Nat) (gs:List Gp),i=j/\j<=c.smps.length/\B=gs.length/\gs.length=j/\
   ne c.rho stamp c.smps=(gs++(ne c.rho stamp (c.smps.drop j)).1,(ne c.rho stamp (c.smps.drop j)).2)/\
   aA H' (slA 140 2 m gs.length x (aF jk gs)::cellsA b0 [aB 0,aB 0] 140::cellsA b [aB c.rho,aB c.least,.bool c.held,aB c.streak,.slice a c.smps.length n] 513::slA 167 4 a c.smps.length n (aF fP c.smps)::F),
  λ_ _ _ i _=>c.smps.length-i.toNat,⟨0,[],rfl,VE _,rfl,rfl,rfl,h⟩,?_⟩
 rintro m B x i N ⟨j,gs,rfl,M,rfl,A,e,h⟩;refine⟨λd=>?_,λd=>?_⟩
 .have f:j<c.smps.length:=by grind
  have C:=h.sl_rd 3 rfl;rw[Wv f,ne]at e;refine⟨⟨by omega,by omega⟩,_,_,C.some kX (by omega) f,_,_,_,_,C.els kX f,?_⟩;refine h.al λ_ _ h=>?_;refine St1 h λ_ h=>?_
  refine λJ G=>?_
  have fin:∀gb v,aA v (cellsA gb (jk (ie c.smps[j] stamp c.rho).1) 140::slA 140 2 m gs.length x (aF jk gs)::cellsA b0 [aB 0,aB 0] 140::cellsA b [aB c.rho,aB c.least,.bool c.held,aB c.streak,.slice a c.smps.length n] 513::slA 167 4 a c.smps.length n (aF fP c.smps)::F)->J gb 0 (ie c.smps[j] stamp c.rho).2 v:=by
   intro gb v h;refine G _ _ _ _ ?_;refine⟨λd=>?_,λd=>?_⟩
   .have t:(ie c.smps[j] stamp c.rho).2≠0:=by grind
    rw[V1 t]at e;rw[e,V1 t]at k;refine St3 h λ_ h=>?_;refine⟨_,_,Rs3,?_⟩
    exact k _ (gC.2 ⟨_,_,h.tl.tl.tl⟩)
   .have t:¬(ie c.smps[j] stamp c.rho).2≠0:=by grind
    rw[Vz t]at e;refine⟨_,_,h.q 0,?_⟩;rintro b3 _ rfl rfl;refine h.append1 sl239 1 rfl rfl rfl (by omega) (by omega) λL O H' h=>⟨_,_,_,rfl,?_⟩
    have I:i64.wrap ((j:Int)+1)=((j+1:Nat):Int):=by grind [aJ]
    conv=>whnf
    rw[I];have h:=h.tl;refine⟨⟨j+1,gs++[(ie c.smps[j] stamp c.rho).1],rfl,f,by simp,by simp[A],?_,?_⟩,by grind⟩
    .grind
    .rw [gx,lL,V6];exact h
  refine⟨_,_,_,_,h.q 0,_,h.r 3,?_,?_⟩
  .refine vU (s:=c.smps[j]) h λH' h=>⟨_,_,_,rfl,?_⟩
   refine h.al λ_ _ h=>?_;refine St1 h λ_ h=>?_
   exact fin _ _ (h.o [0] 2)
  .refine h.al λb5 _ h=>?_
   refine⟨h.r 4,h.q 1,?_⟩;refine vU (s:=c.smps[j]) h λH' h=>⟨_,_,_,rfl,?_⟩
   refine St1 h λ_ h=>?_
   exact fin _ _ (h.o [0] 2)
 .have y:c.smps.length<=j:=by grind
  rw[List.drop_of_length_le y,ne,VQ]at e;rw[e,Vz (λE=>E rfl)]at k
  refine tH (gs:=gs) h (λH h=>h.sl_rd 0 rfl) (by omega) λH' h=>⟨_,_,_,rfl,?_⟩
  refine St2 h λ_ h=>?_;refine⟨_,_,Rs2,?_⟩
  exact k _ (gC.2 ⟨_,_,h.tl.tl⟩)
theorem PC{a:Xa}{c n:Nat}{gs:List Gp}(d:gs.length=n)(h:aA H F)(b:∀H,aA H F->aN H a (aF jk gs))(e:n<=1000000)
  (k:∀H',aA H' F->K (.bool (qb gs)) H') :
  CF 356 #[.slice a n c] H K:=by
 subst d;exact P4 h b e k
theorem PD{b:Nat}{c:Ck}{s:Smp}(ok:CkOk c)(h:aA H (ckA b c::F))
  (k:∀H',aA H' (ckA b (ke c s).1::F)->K (aB (ke c s).2) H') :
  CF 254 #[.pointer (some ⟨b,0,none⟩),aggSm s] H K:=by
 obtain⟨a,n,h⟩:=gC.1 h;have P:=ok.len;have h8:=ok.st;refine OF ?_;unfold ke at k;refine h.al λb0 _ h=>?_
 refine⟨_,_,_,_,h.q 0,?_⟩;refine zf (s:=s) h λH' h=>⟨_,rfl,λe=>?_,λe=>?_⟩
 .have:¬s.ok:=by grind
  rw[V1 this]at k;exact k _ (gC.2 ⟨_,_,h.tl⟩)
 have hs:s.ok:=by simpa using e
 rw[Vz (by grind)]at k;refine⟨_,_,_,h.r 1,_,_,_,_,h.q 0,?_⟩;rintro b1 _ rfl rfl;have A:=(h.push (.cells #[aB s.asked,aB s.got,aB s.sent,aB s.came] 167 (0,0))).rd 2 rfl 4;refine⟨A,?_⟩;refine h.append1 sl166 2 rfl rfl rfl (by omega) (by omega) λa1 c1 H1 h=>⟨_,_,_,rfl,?_⟩
 have ef:aF fP c.smps++[aB s.asked,aB s.got,aB s.sent,aB s.came]=aF fP (c.smps++[s]):=by rw[gx,lL]
 rw[ef]at h;have h5:∀x∈(if 8<c.smps.length+1 then (c.smps++[s]).drop 1 else c.smps++[s]),x.ok:=by
  intro x hx;have:x∈c.smps++[s]:=by
   grind
  rcases VJ.1 this with L|L
  .exact ok.ok x L
  .rw [VH]at L;rw[L];exact hs
 have rest:∀(l:List Smp) (a2:Xa) (c2:Nat) (Z:aC),l.length<=8->l.getLast?=some s->(∀H',
    aA H' (ckA b (if qb (l.map (ig c.rho s.sent)) then
     ({ c with streak:=if c.streak<9223372036854775807 then c.streak+1 else c.streak,held:=if c.least<=(if c.streak<9223372036854775807 then c.streak+1 else c.streak) then false else c.held,smps:=l },(0:Int))
     else ({ c with held:=true,streak:=0,smps:=if (ig c.rho s.sent s).ok then [s] else [] },21)).1::F)->
    K (aB (if qb (l.map (ig c.rho s.sent)) then
     ({ c with streak:=if c.streak<9223372036854775807 then c.streak+1 else c.streak,held:=if c.least<=(if c.streak<9223372036854775807 then c.streak+1 else c.streak) then false else c.held,smps:=l },(0:Int))
     else ({ c with held:=true,streak:=0,smps:=if (ig c.rho s.sent s).ok then [s] else [] },21)).2) H')->
   aA Z (cellsA b0 [aB s.asked,aB s.got,aB s.sent,aB s.came] 167::cellsA b [aB c.rho,aB c.least,.bool c.held,aB c.streak,.slice a2 l.length c2] 513::slA 167 4 a2 l.length c2 (aF fP l)::F)->
   yU.r7 b 0 K b0 Z:=by
  intro l a2 c2 Z P R k h;unfold yU.r7;refine⟨_,_,_,h.r 1,?_⟩;refine h.mk0 sl239 (by omega) (by omega) λC H6 h=>⟨_,_,_,rfl,_,_,_,h.r 2,?_⟩
  refine⟨λC gn J i H'=>∃(j:Nat),i=j/\j<=l.length/\j=gn/\
    aA H' (slA 140 2 C j J (aF jk ((l.take j).map (ig c.rho s.sent)))::cellsA b0 [aB s.asked,aB s.got,aB s.sent,aB s.came] 167::cellsA b [aB c.rho,aB c.least,.bool c.held,aB c.streak,.slice a2 l.length c2] 513::slA 167 4 a2 l.length c2 (aF fP l)::F),
   λ_ _ _ i _=>l.length-i.toNat,⟨0,rfl,VE _,rfl,h⟩,?_⟩
  rintro C gn J i H7 ⟨j,rfl,hj,rfl,h⟩;refine⟨λe=>?_,λe=>?_⟩
  .have f:j<l.length:=by grind
   have I:=h.sl_rd 3 rfl;refine⟨⟨by omega,by omega⟩,_,_,I.some kX (by omega) f,_,_,_,_,I.els kX f,?_⟩;refine h.al λ_ _ h=>?_;refine St1 h λ_ h=>?_
   refine λJn M=>?_
   have fin:∀gb w,aA w (cellsA gb (jk (ie l[j] s.sent c.rho).1) 140::slA 140 2 C j J (aF jk ((l.take j).map (ig c.rho s.sent)))::cellsA b0 [aB s.asked,aB s.got,aB s.sent,aB s.came] 167::cellsA b [aB c.rho,aB c.least,.bool c.held,aB c.streak,.slice a2 l.length c2] 513::slA 167 4 a2 l.length c2 (aF fP l)::F)->Jn gb 0 (ie l[j] s.sent c.rho).2 w:=by
    intro gb w h;refine M _ _ _ _ ?_;refine λW U=>?_
    have u:∀y,aA y (cellsA gb (jk (ig c.rho s.sent l[j])) 140::slA 140 2 C j J (aF jk ((l.take j).map (ig c.rho s.sent)))::cellsA b0 [aB s.asked,aB s.got,aB s.sent,aB s.came] 167::cellsA b [aB c.rho,aB c.least,.bool c.held,aB c.streak,.slice a2 l.length c2] 513::slA 167 4 a2 l.length c2 (aF fP l)::F)->W y:=by
     intro y h;refine U _ ?_;refine⟨_,_,h.q 0,?_⟩;rintro b4 _ rfl rfl;refine h.append1 sl239 1 rfl rfl rfl (by omega) (by omega) λa' c' H' h=>⟨_,_,_,rfl,?_⟩
     have Q:i64.wrap ((j:Int)+1)=((j+1:Nat):Int):=by grind [aJ]
     rw[Q];have h:=h.tl;refine⟨⟨j+1,rfl,f,rfl,?_⟩,by grind⟩;rw[We,List.getElem?_eq_getElem f,VS,gx];rw[Wj,List.map_singleton,lL];exact h
    refine⟨λe=>?_,λe=>?_⟩
    .have he:(ie l[j] s.sent c.rho).2≠0:=by grind
     have T:ig c.rho s.sent l[j]=⟨1,0⟩:=by unfold ig;grind
     refine St1 h λ_ h=>?_
     refine u _ ?_;rw[T];exact h
    .have he:¬(ie l[j] s.sent c.rho).2≠0:=by grind
     have T:ig c.rho s.sent l[j]=(ie l[j] s.sent c.rho).1:=by unfold ig;grind
     refine u _ ?_;rw[T];exact h
   refine⟨_,_,_,_,h.q 0,_,h.r 2,_,h.r 3,?_,?_⟩
   .refine vU (s:=l[j]) h λH' h=>⟨_,_,_,rfl,?_⟩
    refine h.al λ_ _ h=>?_;refine St1 h λ_ h=>?_
    exact fin _ _ (h.o [0] 2)
   .refine h.al λb5 _ h=>?_
    refine⟨h.r 4,h.r 3,h.q 1,?_⟩;refine vU (s:=l[j]) h λH' h=>⟨_,_,_,rfl,?_⟩
    refine St1 h λ_ h=>?_
    exact fin _ _ (h.o [0] 2)
  .have j1:l.length<=j:=by grind
   obtain rfl:j=l.length:=by omega
   rw[VM (VD _)]at h;have d:(l.map (ig c.rho s.sent)).length=l.length:=VP _;have l0:0<l.length:=by
    grind
   have S:l[l.length-1]=s:=by
    grind
   refine PC d h (λH h=>h.sl_rd 0 rfl) (by omega) λj3 h=>⟨_,rfl,λG=>?_,λG=>?_⟩
   .rw [V1 G]at k;refine⟨_,h.r 2,λO V=>?_⟩
    have v:∀(st:Int) B,st=(if c.streak<9223372036854775807 then c.streak+1 else c.streak)->aA B (slA 140 2 C l.length J (aF jk (l.map (ig c.rho s.sent)))::cellsA b0 [aB s.asked,aB s.got,aB s.sent,aB s.came] 167::cellsA b [aB c.rho,aB c.least,.bool c.held,aB st,.slice a2 l.length c2] 513::slA 167 4 a2 l.length c2 (aF fP l)::F)->O B:=by
     intro st B Y h;refine V _ ?_;rw[<-Y]at k;refine⟨_,h.r 2,_,h.r 2,λl3 D=>⟨λe=>?_,λe=>?_⟩⟩
     .rw [V1 (by grind)]at k;refine h.st 2 rfl rfl λh6 h=>D _ ?_
      exact k _ (gC.2 ⟨_,_,h.tl.tl⟩)
     .rw [Vz (by grind)]at k;exact D _ (k _ (gC.2 ⟨_,_,h.tl.tl⟩))
    refine⟨λe=>?_,λe=>?_⟩
    .have f:c.streak<9223372036854775807:=by grind
     refine⟨_,h.r 2,?_⟩;refine h.st 2 rfl rfl λl4 h=>v _ _ ?_ h
     rw[V1 f,aJ]
    .have f:¬c.streak<9223372036854775807:=by grind
     exact v _ _ (by grind) h
   .rw [Vz (by grind)]at k;refine h.st 2 rfl rfl λh3 h=>?_
    refine h.st 2 rfl rfl λl1 h=>?_
    refine h.st 2 rfl rfl λh0 h=>?_
    have Q:i64.wrap ((l.length:Int)-1)=((l.length-1:Nat):Int):=by grind [aJ]
    rw[Q];have I:=h.sl_rd 0 rfl;have t:=I.els vR (k:=l.length-1) (by omega);rw[List.getElem_map,S]at t;refine⟨⟨by omega,by omega⟩,_,_,I.some vR (by omega) (k:=l.length-1) (by omega),_,_,t,?_⟩;refine rH (g:=ig c.rho s.sent s) h λh7 h=>⟨_,rfl,λh4 E=>⟨λe=>?_,λe=>?_⟩⟩
    .rw [V1 (by simpa using e)]at k;refine⟨_,_,_,_,h.q 1,?_⟩;refine h.al λb8 _ h=>?_
     refine h.st 3 rfl rfl λj2 h=>E _ ?_
     have h:=h.o [0,3] 5;have h:=aA.sl_pt h 4 1 rfl;have h:=h.o [1,0] 2;exact k _ (gC.2 ⟨_,_,h⟩)
    .rw [Vz (by grind)]at k;refine E _ ?_;have h:=h.o [2] 4;have h:=(h.sl_nil 167 4).o [1,0] 2;exact k _ (gC.2 ⟨_,_,h⟩)
 refine h.st 1 rfl rfl λH2 h=>?_
 have m:(c.smps++[s]).getLast?=some s:=by simp
 refine⟨_,_,_,h.r 1,λJn M=>⟨λe=>?_,λe=>?_⟩⟩
 .have N:8<c.smps.length+1:=by grind
  rw[V1 N]at k;refine⟨_,_,_,h.r 1,?_⟩;have h:=h.o [2,0,1] 3;have d:c.smps.length+1=(c.smps++[s]).length:=by simp
  rw[d]at h ⊢;refine P8 (j:=1) (by simp) h λl2 h=>⟨_,_,_,rfl,?_⟩
  refine h.st 2 rfl rfl λh2 h=>M _ ?_
  have h:=h.o [1,2,0] 3;have hd:(c.smps++[s]).length-1=((c.smps++[s]).drop 1).length:=by simp
  rw[hd]at h;refine rest _ _ _ _ (by simp;omega) ?_ k h
  grind
 .have N:¬8<c.smps.length+1:=by grind
  rw[Vz N]at k;refine M _ ?_;have d:c.smps.length+1=(c.smps++[s]).length:=by simp
  rw[d]at h;exact rest _ _ _ _ (by simp;omega) m k h
end
structure bg where
 name:Eq
 value:Eq
abbrev aZ(l:bg):Xb:=[.string l.name,.string l.value]
theorem dB(l:bg):(aZ l).length=2:=rfl
theorem zh(l:bg):cK (aZ l)=true:=rfl
structure Ev where
 stamp:Int
 value:Int
 name:Eq
 labs:List bg
 la:Xa
 lc:Nat
def Ev.z:Ev:=⟨0,0,⟨#[]⟩,[],none,0⟩
abbrev bT(e:Ev):Xb:=[aB e.stamp,aB e.value,.string e.name,.slice e.la e.labs.length e.lc]
abbrev aggV(e:Ev):Value:=.agg #[aB e.stamp,aB e.value,.string e.name,.slice e.la e.labs.length e.lc]
theorem dF(e:Ev):(bT e).length=4:=rfl
theorem zi(e:Ev):cK (bT e)=true:=rfl
theorem sl44:SlT Tryz.prog 148 258 4 56:=eG (by kernel_rfl)
theorem sl91:SlT Tryz.prog 35 48 2 32:=eG (by kernel_rfl)
theorem qd:hD Tryz.prog 520 2 258 aggV Ev.z:=lP Tryz.underlying520 (by kernel_rfl)
theorem ko2:jG Tryz.prog 2 aB:=ti Tryz.underlying2
abbrev holdC(hb mb:Nat)(next most:Int):aD:=cellsA hb [aB next,aB most,.map (some mb)] 522
abbrev gp(mb:Nat)(l:cx Ev):aD:=mapA aB aggV mb l
section
variable {hb mb:Nat}{s:HS Ev}{F:List aD}{H:aC}{K:KQ}
theorem PE{next most:Int}(h:aA H F)
  (k1:next<0\/1099511627776<next\/most<1\/256<most->K (.tuple #[.pointer none,aB 11]) H)
  (k2:∀hb mb H',0<=next/\next<=1099511627776/\1<=most/\most<=256->aA H' (holdC hb mb next most::gp mb []::F)->K (.tuple #[PA hb 0,aB 0]) H') :
  CF 227 #[aB next,aB most] H K:=by
 refine cM 227 476 ⟨λa=>k1 ?_,λa=>?_⟩
 .grind
 .simp only[VN,VG]at a;refine h.alm aB aggV λmb _ h=>?_
  refine h.al λhb _ h=>?_
  exact k2 _ _ _ (by omega) h
theorem PF{next most:Int}(h:aA H F)(i:Nat)(a:aS i F=holdC hb mb next most):bO Tryz.prog 286 #[PA hb 0] H (aB next):=
 cM 286 28 ⟨_,h.rd i a _,rfl,rfl⟩
theorem PG{first:Int}{ia:Xa}{ic:Nat}{items:List Ev}(h:aA H (holdC hb mb s.next s.most::gp mb s.rows::F))(ok:s.Ok)(hn:s.next<=1125899906842624)
  (hF:∀H,aA H F->aN H ia (aF bT items)) (h4:items.length<=1000000)
  (k:∀a c H',aA H' (slA 258 4 a (s.offer first items).2.1.length c (aF bT (s.offer first items).2.1)::holdC hb mb (s.offer first items).1.next s.most::gp mb (s.offer first items).1.rows::F)->
   K (.tuple #[.slice a (s.offer first items).2.1.length c,aB (s.offer first items).2.2]) H') :
  CF 360 #[PA hb 0,aB first,.slice ia items.length ic] H K:=by
 refine Ox ?_;have j2:=ok.most1;have j1:=ok.most2;have h6:=ok.next0;refine⟨λU=>?_,λU=>?_⟩
 .simp only[VY,V5]at U;have e:s.offer first items=(s,[],(items.length:Int)):=by unfold HS.offer;grind
  rw[e]at k;exact k none 0 H (h.sl_nil 258 4)
 .simp only[VN,VG]at U;have e:s.offer first items=({ s with next:=(pop s.next (eD s.next s.most first items (s.rows,0)).1).2.1,rows:=(pop s.next (eD s.next s.most first items (s.rows,0)).1).2.2 },
    (pop s.next (eD s.next s.most first items (s.rows,0)).1).1,(eD s.next s.most first items (s.rows,0)).2):=by
   unfold HS.offer;grind
  rw[e]at k;refine⟨λb L H'=>∃(j:Nat) (rows:cx Ev),L=j/\j<=items.length/\jH s.next s.next s.most rows/\0<=b/\b<=j/\
   eD s.next s.most (first+j) (items.drop j) (rows,b)=eD s.next s.most first items (s.rows,0)/\aA H' (holdC hb mb s.next s.most::gp mb rows::F),
   λ_ i _=>items.length-i.toNat,⟨0,s.rows,rfl,VE _,ok.rows.weaken (by omega) (Wc _),Wc _,by simp,by simp,h⟩,?_⟩
  rintro b L H1 ⟨j,rows,rfl,hj,w,h1,h5,y,h⟩;refine⟨λh0=>?_,λh0=>?_⟩
  .have D:j<items.length:=by grind
   have S:=hF H1 h.tl.tl;have e1:i64.wrap (first+j)=first+j:=aJ;have e2:i64.wrap (s.next+s.most)=s.next+s.most:=aJ;have e3:i64.wrap ((j:Int)+1)=((j+1:Nat):Int):=aJ;have e4:i64.wrap (b+1)=b+1:=aJ;have I:items.drop j=items[j]::items.drop (j+1):=Wv D;rw[I,eD]at y;have P:=DI (n:=first+j) (v:=items[j]) (s:=(rows,b)) w;have j3:=NK (next:=s.next) (most:=s.most) (n:=first+j) (v:=items[j]) (s:=(rows,b)) h1;rw[e1];refine⟨⟨by omega,by omega⟩,_,_,S.some dF (by omega) D,_,_,_,_,_,_,S.els dF D,?_⟩;refine h.al λ_ _ h=>?_;refine St1 h λ_ h=>?_
   have f:∀H2 (A B M:aD),M=gp mb (dS s.next s.most (first+j) items[j] (rows,b)).1->aA H2 (A::B::holdC hb mb s.next s.most::M::F)->
     ∃(Q:Nat) (d:cx Ev),((j+1:Nat):Int)=Q/\Q<=items.length/\jH s.next s.next s.most d/\0<=(dS s.next s.most (first+j) items[j] (rows,b)).2/\(dS s.next s.most (first+j) items[j] (rows,b)).2<=Q/\
     eD s.next s.most (first+Q) (items.drop Q) (d,(dS s.next s.most (first+j) items[j] (rows,b)).2)=eD s.next s.most first items (s.rows,0)/\aA H2 (holdC hb mb s.next s.most::gp mb d::F):=
    λH2 _ _ _ hM h2=>⟨j+1,_,rfl,D,P,by grind,by grind,by grind,by rw[<-hM];exact h2.tl.tl⟩
   refine⟨_,h.r 1,?_⟩;have Y:=h.mp_get qd ko2 2 rfl (x:=first+j);refine⟨_,_,_,_,_,_,_,Y,?_⟩
   repeat (first|refine h.al λ_ _ h=>?_|refine⟨_,Ra3,?_⟩|refine St3 h λ_ h=>?_)
   refine λJn hJ=>⟨λm=>hJ _ _ ?_,λm=>?_⟩
   .have R:dS s.next s.most (first+j) items[j] (rows,b)=(rows,b):=by
     unfold dS
     grind
    rw[R]at f;rw[e3];exact⟨f _ _ _ _ rfl h,by grind⟩
   .simp only[VN,VG]at m;have hl:aK (first+j) rows=none:=by
     simp_all
    refine⟨_,Ra3,?_⟩;refine⟨_,Ra3,?_⟩;dsimp only;rw[e2,e4];refine λh8 N=>⟨λJ=>N _ _ ?_,λJ=>?_⟩
    .simp only[V5]at J;have R:dS s.next s.most (first+j) items[j] (rows,b)=(rows,b+1):=by unfold dS;grind
     rw[R]at f;refine hJ _ _ ?_;rw[e3];exact⟨f _ _ _ _ rfl h,by grind⟩
    .simp only[VG]at J;have R:dS s.next s.most (first+j) items[j] (rows,b)=(ins (first+j) items[j] rows,b):=by unfold dS;grind
     rw[R]at f;refine⟨_,Ra3,?_⟩;refine⟨_,_,_,_,_,_,Rs3,?_⟩;refine h.mp_update (x:=first+j) (v:=items[j]) qd ko2 3 rfl λH2 h2=>N _ _ ?_
     refine hJ _ _ ?_;have ep:gp mb (mset (first+j) items[j] rows)=gp mb (ins (first+j) items[j] rows):=tk (by rw[mset,lJ hl];exact (yy _ _ _).symm);rw[e3];exact⟨f _ _ _ _ ep h2,by grind⟩
  .have G:j=items.length:=by
    grind
   subst G;simp only[List.drop_length,eD]at y;rw[<-y]at k;simp only at k;have h7:=yz w.rising λp O=>(w.inb p O).1
   have h3:=w.length;refine⟨λZ W rc rf H'=>∃(got:List Ev) (next:Int) (d:cx Ev),W=got.length/\rf=b/\gw d/\(∀p∈d,next<=p.1)/\(pop s.next rows).1=got++(pop next d).1/\(pop s.next rows).2=(pop next d).2/\
    0<=next/\next+d.length<=s.next+rows.length/\got.length+d.length=rows.length/\aA H' (slA 258 4 Z W rc (aF bT got)::holdC hb mb next s.most::gp mb d::F),
    λ_ n _ _ _=>rows.length-n,⟨[],s.next,rows,rfl,rfl,w.rising,λp O=>(w.inb p O).1,by simp,by simp,by omega,by omega,by simp,h.sl_nil 258 4⟩,?_⟩
   rintro Z W rc rf H2 ⟨got,next,d,rfl,rfl,E,G,C,u,h9,V,T,h⟩;refine⟨_,h.r 1,_,h.r 1,?_⟩;have t:=NL (next:=next) E G;have e5:i64.wrap (next+1)=next+1:=aJ;refine⟨_,_,_,_,_,_,_,h.mp_get qd ko2 2 rfl (x:=next),?_⟩;refine h.al λb3 _ h=>?_
   refine⟨h.mp_get qd ko2 3 rfl (x:=next),h.r 2,h.r 2,?_⟩;refine h.st 0 rfl rfl λH3 h=>?_
   cases d with
   | nil=>
    simp only at t;refine⟨λ_=>?_,λm=>by simp[t]at m⟩
    simp only[pop,VQ]at C u;rw[C,u]at k;exact k _ _ _ h.tl
   | cons p r=>
    obtain⟨n,v⟩:=p;simp only at t
    by_cases en:n=next
    .subst en;rw[V1 rfl]at t;rw[t]at h ⊢;refine⟨λm=>by simp at m,λ_=>?_⟩
     refine⟨_,h.r 2,_,h.r 2,?_⟩;refine h.mp_delete (x:=n) qd ko2 3 rfl λH3 h=>?_
     have h:aA H3 (cellsA b3 (bT v) 258::slA 258 4 Z got.length rc (aF bT got)::holdC hb mb n s.most::gp mb (bD n ((n,v)::r))::F):=h;rw[NO E]at h;simp only[VA]at V T;refine⟨_,_,_,_,_,_,h.q 0,?_⟩;rintro b4 _ rfl rfl;refine h.append1 sl44 1 rfl (by rfl) (by rfl) (by omega) (by omega) λa' c' H4 h=>⟨_,_,_,rfl,?_⟩
     refine⟨_,h.r 2,?_⟩;refine h.st 2 rfl rfl λH5 h=>?_
     refine⟨?_,by grind⟩;rw[e5]at h;simp only[pop,if_true]at C u;refine⟨got++[v],n+1,r,by simp,rfl,(Wl.1 E).2,λp O=>?_,by grind,u,by omega,by omega,by simp;omega,?_⟩
     .have:=(Wl.1 E).1 p O;grind
     .rw [gx,lL];exact h.tl
    .rw [Vz en]at t;refine⟨λ_=>?_,λm=>by simp[t]at m⟩
     simp only[pop,Vz en,VQ]at C u;rw[C,u]at k;exact k _ _ _ h.tl
theorem EV{next most:Int}{rows:cx Ev}(h:aA H (holdC hb mb next most::gp mb rows::F))(i:gw rows)(d:∀p∈rows,aG p.1)(j:rows.length<=1000000)
  (k:∀a c H',aA H' (slA 2 1 a rows.length c ((aL rows).map aB)::holdC hb mb next most::gp mb rows::F)->K (.slice a rows.length c) H') :
  CF 287 #[PA hb 0] H K:=by
 refine cM 287 28 ⟨_,h.r 0,?_⟩;refine Pj ⟨_,_,rfl,?_⟩;refine Pl h 1 rfl (λx e=>by obtain⟨p,f,rfl⟩:=V8.1 e;exact d p f) (by omega) λa c H' b g=>⟨_,_,_,rfl,?_⟩
 rw[NP i]at b;exact k a c H' b
theorem PI{next most:Int}{rows:cx Ev}(h:aA H (holdC hb mb next most::gp mb rows::F))(m:gw rows)(y:∀p∈rows,aG p.1)(u:rows.length<=1000000)
  (k:∀a c H',aA H' (slA 258 4 a rows.length c (aF bT (rows.map (·.2)))::holdC hb mb next most::gp mb []::F)->K (.slice a rows.length c) H') :
  CF 390 #[PA hb 0] H K:=by
 refine cN 390 0x11215612399251441c [[(3,sS),(9,sI)]] ?_;refine EV h m y u λv rc C h=>⟨_,_,_,rfl,?_⟩
 refine⟨λla s lc i H'=>∃k:Nat,i=k/\k=s/\k<=rows.length/\aA H' (slA 258 4 la k lc (aF bT ((rows.take k).map (·.2)))::slA 2 1 v rows.length rc ((aL rows).map aB)::holdC hb mb next most::gp mb rows::F),
  λ_ _ _ i _=>rows.length-i.toNat,⟨0,rfl,rfl,VE _,h.sl_nil 258 4⟩,?_⟩
 rintro la s lc i H2 ⟨j,rfl,rfl,B,h⟩;refine⟨λt=>?_,λt=>?_⟩
 .have b:j<rows.length:=by grind
  have d:j<(aL rows).length:=by grind
  have e:=(h.sl_rd 1 rfl).at (j:=j) d;have e3:i64.wrap ((j:Int)+1)=((j+1:Nat):Int):=aJ;have f:aK (aL rows)[j] rows=some rows[j].2:=nN (NI m) (by
   grind)
  have n:=h.mp_get1 qd ko2 3 rfl (x:=(aL rows)[j]);rw[f]at n;refine⟨⟨by omega,by omega⟩,_,_,e.1,_,e.2,_,h.r 2,_,_,_,_,_,_,n,?_⟩;rintro b1 _ rfl rfl;refine h.append1 sl44 0 rfl (by rfl) (by rfl) (by omega) (by omega) λA D w h=>⟨_,_,_,rfl,?_⟩
  conv=>whnf
  rw[e3];refine⟨⟨j+1,rfl,rfl,b,?_⟩,by grind⟩;rw[VU b,VS,gx];exact h
 .have:j=rows.length:=by
   grind
  subst this;refine⟨_,h.r 2,?_⟩;refine h.mp_clear qd 3 rfl λw h=>?_
  rw[VM (VD _)]at h;exact k _ _ _ (h.o [0,2,3] 4)
theorem PJ{next most:Int}{rows:cx Ev}(h:aA H (holdC hb mb next most::gp mb rows::F))
  (k:∀a c H',aA H' (holdC a c next most::gp c rows::holdC hb mb next most::gp mb rows::F)->K (PA a 0) H') :
  CF 266 #[PA hb 0] H K:=by
 refine cM 266 28 ?_;refine⟨_,h.r 0,_,h.r 0,_,h.r 0,?_⟩;refine Pm h 1 rfl λd h _=>⟨_,rfl,h.r 1,h.r 1,?_⟩
 refine h.al λb _ h=>?_
 exact k _ _ _ h
end
theorem vV(k:IntKind)(f:Nat->Int):∀n i,(bU k f n i).length=n
 | 0,_=>rfl
 | n+1,i=>by simp[bU,vV k f n]
theorem tJ(k:IntKind)(f:Nat->Int):∀n i j,j<n->aI (bU k f n i) j=some (.int k (f (i+j)))
 | n+1,i,0,_=>rfl
 | n+1,i,j+1,h=>by
  have:=tJ k f n (i+1) j (by omega);simp only[bU,aI];rw[this,show i+1+j=i+(j+1) by omega]
theorem EW(k:IntKind)(f:Nat->Int):∀n i,cK (bU k f n i)=true
 | 0,_=>rfl
 | n+1,i=>by
  have:=EW k f n (i+1);simpa[bU,cK] using this
def fx(f:Nat->Int)(j:Nat)(x:Int):Nat->Int:=λi=>if i=j then x else f i
theorem EX(k:IntKind){f g:Nat->Int}:∀n i,(∀j,i<=j->j<i+n->f j=g j)->bU k f n i=bU k g n i
 | 0,_,_=>rfl
 | n+1,i,h=>by
  simp only[bU];rw[h i (VD _) (by omega),EX k n (i+1) λj b a=>h j (by omega) (by omega)]
theorem zj(k:IntKind)(f:Nat->Int)(x:Int):∀n i j,j<n->(bU k f n i).set j (.int k x)=bU k (fx f (i+j) x) n i
 | n+1,i,0,_=>by
  simp only[bU,WV,Wk]
  grind [fx,EX]
 | n+1,i,j+1,h=>by
  simp only[bU,List.set_cons_succ];rw[zj k f x n (i+1) j (by omega),show i+1+j=i+(j+1) by omega];rw[show fx f (i+(j+1)) x i=f i by simp[fx]]
section
variable {H:aC}{L:List aD}
theorem aA.rda{b e:Nat}{cs:Xb}(h:aA H L)(i:Nat)(a:aS i L=cellsA b cs e):bV H b 0 cs:=
 tp λf v c=>by rw[h.rd i a,VB];exact c
theorem aA.rdv{b e o:Nat}{l vs r:Xb}(h:aA H L)(i:Nat)(c:aS i L=cellsA b (l++vs++r) e)(d:o=l.length):bV H b o vs:=
 tp λf v a=>by
  subst d;rw[h.rd i c,VX,y5,DK (lI a)];exact a
theorem aA.rdt{b e o:Nat}{l vs:Xb}(h:aA H L)(i:Nat)(a:aS i L=cellsA b (l++vs) e)(c:o=l.length):bV H b o vs:=
 aA.rdv (r:=[]) h i (by rw[a,VQ]) c
theorem aA.sta{Q:aC->Prop}{b e:Nat}{vs cs:Xb}(h:aA H L)(i:Nat)(a:aS i L=cellsA b cs e)(c:vs.length=cs.length)(k:∀H',aA H' (put i (cellsA b vs e) L)->Q H') :
  dJ H b 0 vs/\∀H',H'=ee H b 0 vs->Q H':=by
 refine⟨h.can i a 0 vs (by omega),?_⟩;rintro H' rfl;have:=h.set i a 0 vs;rw[y6 _ _ c]at this;exact k _ this
end
theorem PK{P:Program}{t e:TypeId}{n:Nat}{f:Nat->Int}{i:Int}(b:P.underlying t=some (.array n e))(j:∀w,(Go.sizeOf e).run P w=.ok 1 w)(c:∀w,(Go.isAgg e).run P w=.ok false w)(d:0<=i)(h:i<n) :
  mL P (Instr.index t (.agg ⟨bU .i64 f n 0⟩) (aB i)) (aB (f i.toNat)):=by
 intro w;have a:=tJ .i64 f n 0 i.toNat (by omega);rw[fJ]at a;simp only[Instr.index,asIntOf,Sem.run_bind,Sem.run_pure,Result.andThen_ok,ei b];rw[V1 ⟨d,h⟩];simp only[Sem.run_bind,j,Result.andThen_ok,Wn,part,c];simp[a]
abbrev B64:Int:=18446744073709551616
abbrev whi(z:Int):Int:=z/B64
abbrev wlo(z:Int):Int:=z%B64
abbrev kg(z:Int):Value:=.agg #[aB (whi z),.int .u64 (wlo z)]
abbrev fQ(z:Int):Prop:=-170141183460469231731687303715884105728<=z/\z<170141183460469231731687303715884105728
def fR(a b:Int):Int×Int:=if fQ (a+b) then (a+b,0) else (0,12)
theorem qe(z:Int):0<=wlo z/\wlo z<B64:=by grind
theorem wz(z:Int):whi z*B64+wlo z=z:=by grind
def bW(v:Int):Int:=if v<0 then 0 else if v=0 then 1 else 1+(bitLen v.toNat:Nat)
theorem oN{v:Int}(h:aG v):0<=bW v/\bW v<65:=by
 unfold bW aG at *
 split
 .omega
 .split
  .omega
  .have:bitLen v.toNat<=63:=by
    unfold bitLen
    split
    .omega
    .rename_i a;have:=(Nat.log2_lt a).2 (show v.toNat<2^63 by omega);omega
   omega
def nV(h:Nat->Int):Bool:=(List.range 65).all λi=>decide (0<=h i)
theorem qf{h:Nat->Int}:nV h=true↔∀i,i<65->0<=h i:=by
 grind [nV]
def iw(h:Nat->Int)(v:Int):(Nat->Int)×Int:=
 if nV h=false then (Z0,10) else if h (bW v).toNat=9223372036854775807 then (Z0,12) else (fx h (bW v).toNat (h (bW v).toNat+1),0)
def wfH(h:Nat->Int):Prop:=∀i,i<65->aG (h i)
theorem wfH_z:wfH Z0:=λ_ _=>by unfold aG;simp
section
variable {F L:List aD}{H:aC}{K:KQ}
theorem EY{x y:Int}(b:0<=x)(a:0<=y):sx Tryz.prog 404 #[.int .u64 x,.int .u64 y,.int .u64 0] (.tuple #[.int .u64 ((x+y)%B64),.int .u64 ((x+y)/B64)]):=by
 have e:(callFunc 404 #[.int .u64 x,.int .u64 y,.int .u64 0])=(callFunc 404 #[.int .u64 x,.int .u64 y,.int .u64 0]):=rfl;intro w;have h:(callFunc 404 #[.int .u64 x,.int .u64 y,.int .u64 0]).run Tryz.prog w=.ok (.value (.tuple #[.int .u64 (Int.ofNat ((x.toNat+y.toNat+0)%18446744073709551616)),.int .u64 (Int.ofNat ((x.toNat+y.toNat+0)/18446744073709551616))])) w:=by kernel_rfl
 grind
theorem idx60{f:Nat->Int}{i:Int}(a:0<=i)(b:i<65):mL Tryz.prog (Instr.index 157 (.agg ⟨bU .i64 f 65 0⟩) (aB i)) (aB (f i.toNat)):=
 PK (n:=65) Tryz.underlying157 Tryz.sizeOf2 Tryz.isAgg2 a (by omega)
theorem PN{f:Nat->Int}(h:aA H F)(k:∀H',aA H' F->K (.bool (nV f)) H'):CF 508 #[.agg ⟨bU .i64 f 65 0⟩] H K:=by
 refine cN 508 0x1215612399251b4c [[(6,sI)]] ?_;refine h.al λb _ h=>?_
 refine⟨f,h.rda 0 rfl,?_⟩;refine⟨λi H'=>∃j:Nat,i=j/\j<=65/\(∀q,q<j->0<=f q)/\aA H' F,λi _=>65-i.toNat,⟨0,rfl,by omega,λ_ h=>by omega,h.tl⟩,?_⟩
 rintro i n ⟨j,rfl,m,d,h⟩;refine⟨λc=>?_,λc=>?_⟩
 .have e:j<65:=by grind
  refine⟨_,idx60 (by omega) (by omega),?_⟩;rw[VL];refine⟨λa=>?_,λa=>?_⟩
  .have a:=V3 a;have:nV f=false:=by
    rw[WA]
    grind [qf]
   rw[this]at k;exact k _ h
  .have a:=V2 a
   conv=>whnf
   rw[show i64.wrap ((j:Int)+1)=((j+1:Nat):Int) by grind [aJ]]
   grind
 .have:j=65:=by grind
  subst this;have:nV f=true:=qf.2 d;rw[this]at k;exact k _ h
theorem lV{v:Int}(b:aG v):bO Tryz.prog 197 #[aB v] H (aB (bW v)):=by
 refine OM ?_;have hb:=oN b;unfold bW at hb ⊢;refine⟨λc=>?_,λc=>⟨λa=>?_,λa=>?_⟩⟩
 .grind
 .grind
 .have f:=V2 c;have d:=V2 a;rw[Vz f,Vz d]at hb ⊢;unfold aG at b;have e:u64.wrap v=((v.toNat:Nat):Int):=by grind [fw]
  rw[e];refine⟨_,EK (by omega),?_,rfl⟩
  grind [aJ]
theorem whi_w{z:Int}(h:fQ z):aG (whi z):=by unfold fQ at h;unfold aG whi B64;omega
theorem fdiv63{v:Int}(h:aG v):Int.fdiv v (2^(min (Int.toNat 63) (i64.bits)))=whi v:=by
 show Int.fdiv v 9223372036854775808=whi v;rw[Ya _ (by decide)];unfold aG at h
 grind
theorem zk{v:Int}(a:aG v)(h:aA H F)(k:∀H',aA H' F->K (kg v) H'):CF 196 #[aB v] H K:=by
 refine cM 196 28 ?_;refine h.al λb _ h=>⟨by decide,?_⟩
 rw[fdiv63 a];have e:u64.wrap v=wlo v:=by rw[fw]
 conv=>whnf
 rw[e];refine St1 h λ_ h=>?_;refine⟨_,_,Rs1,?_⟩
 exact k _ h.tl
theorem zl{x y:Int}(i:fQ x)(f:fQ y)(h:aA H F)(k:∀H',aA H' F->K (.tuple #[kg (fR x y).1,aB (fR x y).2]) H') :
  CF 486 #[kg x,kg y] H K:=by
 refine cM 486 70108 ?_;have t:=qe x;have s:=qe y;have d:=whi_w i;have c:=whi_w f;have u:=wz x;have v:=wz y;have n:(wlo x+wlo y)%B64=wlo (x+y):=by grind
 have eq:i64.wrap ((wlo x+wlo y)/B64)=(wlo x+wlo y)/B64:=by unfold B64 at *;grind [aJ]
 have m:i64.wrap (i64.wrap (whi x+whi y)+(wlo x+wlo y)/B64)=i64.wrap (whi (x+y)):=by
  rw[i64e,i64e,i64e]
  grind
 refine h.al λb _ h=>?_
 refine h.al λb1 _ h=>?_
 refine h.al λb2 _ h=>?_
 refine⟨_,h.r 2,_,h.r 1,_,_,EY t.1 s.1,_,h.r 2,_,h.r 1,_,h.r 2,_,h.r 1,?_⟩;rw[eq,m,n];have a:decide (aX .and .i64 (aX .xor .i64 (whi x) (i64.wrap (whi (x+y)))) (aX .xor .i64 (whi y) (i64.wrap (whi (x+y))))<0)=!decide (fQ (x+y)):=by
  rw[Wd,V5,DT (vv _ _ _) (vv _ _ _),V4,V5,V5,vu d (pP _),vu c (pP _),vt,vt,Wa,VG];unfold fQ at i f ⊢;rw[i64e];unfold whi B64;omega
 conv=>whnf
 rw[a];unfold fR at k;refine⟨λj=>?_,λj=>?_⟩
 .have:¬fQ (x+y):=V2 (by grind);rw[Vz this]at k;refine St3 h λ_ h=>?_;refine⟨_,_,Rs3,?_⟩
  exact k _ h.tl.tl.tl
 .have:fQ (x+y):=V3 (by grind);rw[V1 this]at k;have e:i64.wrap (whi (x+y))=whi (x+y):=by grind [aJ]
  rw[e];refine St3 h λ_ h=>?_;refine⟨_,_,Rs3,?_⟩
  exact k _ h.tl.tl.tl
end
theorem PO(l r:List Int):(l++r).sum=l.sum+r.sum:=by
 grind
theorem EZ{l:List Int}{j:Nat}(h:j<l.length):(l.take (j+1)).sum=(l.take j).sum+l[j]:=by
 rw[VU h,PO];simp
theorem Ga:∀{l:List Int},(∀x∈l,aG x)->-(9223372036854775808*(l.length:Int))<=l.sum/\l.sum<=9223372036854775808*(l.length:Int)
 | [],_=>by simp
 | a::l,h=>by
  have d:=h a VI;have c:=Ga (l:=l) λx b=>h x (VF _ b)
  grind [aG]
theorem wstep{s v:Int}(hs:fQ s)(f:aG v)(a:fQ (s+v)) :
  i64.wrap (i64.wrap (whi s+whi v)+i64.wrap ((wlo s+wlo v)/B64))=whi (s+v)/\(wlo s+wlo v)%B64=wlo (s+v):=by
 have i:=qe s;have h:=qe v;have e:=wz s;have b:=wz v;refine⟨?_,by grind⟩;have eq:i64.wrap ((wlo s+wlo v)/B64)=(wlo s+wlo v)/B64:=by unfold B64 at *;grind [aJ]
 rw[eq];have c:aG (whi (s+v)):=by unfold fQ at a;unfold aG whi B64;omega
 have d:i64.wrap (i64.wrap (whi s+whi v)+(wlo s+wlo v)/B64)=i64.wrap (whi (s+v)):=by
  rw[i64e,i64e,i64e];unfold whi wlo B64;omega
 grind [aJ]
def rowH(h:Nat->Int):List Int:=(List.range 65).map h
def sumC(h:Nat->Int):Int:=(rowH h).sum
theorem vecL_map(f:Nat->Int)(n i:Nat):bU .i64 f n i=((List.range n).map λj=>f (i+j)).map aB:=by
 induction n generalizing i with
 | zero=>rfl
 | succ n ih=>
  rw[bU,ih,List.range_succ_eq_map];simp only[VR,Wg,Wk];congr 1;apply WN
  grind
theorem vecL_row(f:Nat->Int):bU .i64 f 65 0=(rowH f).map aB:=by
 grind [vecL_map,rowH]
theorem rowH_len(f:Nat->Int):(rowH f).length=65:=by simp[rowH]
theorem rowH_mem{f:Nat->Int}{x:Int}(h:x∈rowH f):∃i,i<65/\x=f i:=by
 obtain⟨i,hi,rfl⟩:=V8.1 h
 grind
structure Cl where
 n:Int
 sum:Int
 mn:Int
 mx:Int
 cer:Int
 pos:Int
 h:Nat->Int
def Cl.z:Cl:=⟨0,0,0,0,0,0,Z0⟩
abbrev dm(c:Cl):Xb:=[aB c.n,aB (whi c.sum),.int .u64 (wlo c.sum),aB c.mn,aB c.mx,aB c.cer,aB c.pos]++bU .i64 c.h 65 0
abbrev aggC(c:Cl):Value:=.agg ⟨dm c⟩
theorem kh(c:Cl):(dm c).length=72:=by simp[dm,vV]
structure WC(c:Cl):Prop where
 n:aG c.n
 sum:fQ c.sum
 mn:aG c.mn
 mx:aG c.mx
 cer:aG c.cer
 pos:aG c.pos
 h:wfH c.h
theorem WC.z:WC Cl.z:=⟨by decide,by decide,by decide,by decide,by decide,by decide,wfH_z⟩
def inB(c:Cl):Bool:=(List.range 65).all λi=>decide (c.h i=0)||decide (bW c.mn<=i/\(i:Int)<=bW c.mx)
def gD(c:Cl):Bool:=
 !(decide (c.n<0)||decide (c.cer<0)||decide (c.pos<0)||decide (c.mx<c.mn))&&nV c.h&&decide (sumC c.h=c.n) &&
 (if c.n=0 then decide (c.sum=0)&&decide (c.mn=0)&&decide (c.mx=0)
  else !(decide (c.h (bW c.mn).toNat=0)||decide (c.h (bW c.mx).toNat=0))&&inB c)
def fS(c:Cl)(certain:Bool):Cl×Int:=
 if gD c=false then (Cl.z,10) else
 if certain then (if c.cer=9223372036854775807 then (Cl.z,12) else ({ c with cer:=c.cer+1 },0))
 else (if c.pos=9223372036854775807 then (Cl.z,12) else ({ c with pos:=c.pos+1 },0))
def jm(c:Cl)(v:Int):Cl×Int:=
 if gD c=false then (Cl.z,10) else
 if (iS c.n 1).2≠0 then (Cl.z,12) else
 if (fR c.sum v).2≠0 then (Cl.z,12) else
 if (iw c.h v).2≠0 then (Cl.z,12) else
 let mn:=if c.n=0 then v else c.mn
 let mx:=if c.n=0 then v else c.mx
 ({ c with n:=(iS c.n 1).1,sum:=(fR c.sum v).1,h:=(iw c.h v).1,mn:=if v<mn then v else mn,mx:=if v>mx then v else mx },0)
theorem Gb{c:Cl}(h:WC c)(b:Bool):WC (fS c b).1:=by
 unfold fS;have d:=h.cer;have a:=h.pos;unfold aG at d a
 split
 .exact WC.z
 .split
  .split
   .exact WC.z
   .exact⟨h.n,h.sum,h.mn,h.mx,by unfold aG;grind,h.pos,h.h⟩
  .split
   .exact WC.z
   .exact⟨h.n,h.sum,h.mn,h.mx,h.cer,by unfold aG;grind,h.h⟩
theorem addS_wf(a b:Int):aG (iS a b).1:=by
 unfold iS
 split
 .assumption
 .decide
theorem wadd_wf(a b:Int):fQ (fR a b).1:=by
 unfold fR
 split
 .assumption
 .decide
theorem addH_wf{h:Nat->Int}(a:wfH h){v:Int}(c:aG v):wfH (iw h v).1:=by
 unfold iw
 split
 .exact wfH_z
 .split
  .exact wfH_z
  .intro i hi;dsimp only[fx]
   split
   .rename_i e d b;subst b;have:=a _ hi;unfold aG at *;omega
   .exact a i hi
theorem addC_wf{c:Cl}(h:WC c){v:Int}(a:aG v):WC (jm c v).1:=by
 unfold jm
 split
 .exact WC.z
 .split
  .exact WC.z
  .split
   .exact WC.z
   .split
    .exact WC.z
    .refine⟨addS_wf _ _,wadd_wf _ _,?_,?_,h.cer,h.pos,addH_wf h.h a⟩
     .dsimp only;have:=h.mn
      split <;> split <;> assumption
     .dsimp only;have:=h.mx
      split <;> split <;> assumption
section
variable {F L:List aD}{H:aC}{K:KQ}
theorem PS{a:Xa}{n c:Nat}{vs:List Int}(w:vs.length=n)(h:aA H F)(v:∀H,aA H F->aN H a (vs.map aB))(u:∀x∈vs,aG x)(E:n<=1000000)
  (k:∀H',aA H' F->K (kg vs.sum) H'):CF 312 #[.slice a n c] H K:=by
 subst w;refine O7 ?_;refine h.al λb _ h=>?_
 refine h.al λb1 _ h=>?_
 refine⟨λi H'=>∃j:Nat,i=j/\j<=vs.length/\aA H' (cellsA b1 [aB (whi (vs.take j).sum),.int .u64 (wlo (vs.take j).sum)] 155::cellsA b [aB 0,.int .u64 0] 155::F),λi _=>vs.length-i.toNat,⟨0,rfl,VE _,h⟩,?_⟩
 rintro i D ⟨j,rfl,C,h⟩;have m:∀q,fQ (vs.take q).sum:=λq=>by
  have:=Ga (l:=vs.take q) λx B=>u x (Ww B)
  rw[W7]at this;unfold fQ;omega
 refine⟨λy=>?_,λy=>?_⟩
 .have d:j<vs.length:=by grind
  have t:=(v _ h.tl.tl).at d;have f:=u _ (V7 d);have s:=m (j+1);rw[EZ d]at s;have e:=wstep (m j) f s;rw[<-EZ d]at e;have A:u64.wrap vs[j]=wlo vs[j]:=by rw[fw]
  refine⟨⟨by omega,by omega⟩,_,_,t.1,_,t.2,_,h.r 0,?_⟩;rw[A];refine⟨_,_,EY (qe _).1 (qe _).1,_,h.r 0,by decide,?_⟩;rw[fdiv63 f,e.1,e.2];refine h.sta 0 rfl rfl λH2 h=>?_
  rw[show i64.wrap ((j:Int)+1)=((j+1:Nat):Int) by grind [aJ]];exact⟨⟨j+1,rfl,d,h⟩,by grind⟩
 .have:j=vs.length:=by grind
  subst this;rw[VM (VD _)]at h
  repeat (first|refine St2 h λ_ h=>?_|refine⟨_,_,Rs2,?_⟩)
  exact k _ h.tl.tl
theorem PT{f:Nat->Int}(c:wfH f)(h:aA H F)(k:∀H',aA H' F->K (kg (sumC f)) H'):CF 195 #[.agg ⟨bU .i64 f 65 0⟩] H K:=by
 refine ON ?_;refine h.al λb _ h=>?_
 refine h.al λb1 _ h=>⟨by decide,?_⟩
 have e0:bM (some ⟨b,0,none⟩) 0 65 1=some ⟨b,0,none⟩:=rfl;rw[e0];refine PS (vs:=rowH f) (rowH_len f) h (λH h=>?_) (λx a=>?_) (by decide) λH2 h=>⟨_,_,rfl,?_⟩
 .have:=h.ce_rd 1 rfl;rw[vecL_row]at this;exact this
 .obtain⟨i,hi,rfl⟩:=rowH_mem a;exact c i hi
 .refine h.sta 0 rfl rfl λd h=>⟨_,_,h.rda 0 rfl,?_⟩
  exact k _ h.tl.tl
theorem Gc{f:Nat->Int}(h:aA H F)(k:∀b H',aA H' (cellsA b (bU .i64 f 65 0) 157::F)->K (.func (.func 314) #[] #[PA b 0]) H'):CF 198 #[.agg ⟨bU .i64 f 65 0⟩] H K:=by
 refine cM 198 28 ?_;exact h.al λb _ h=>k _ _ h
theorem Ge{l b:Nat}{f:Nat->Int}(A:Nat->aD)(u:aD)(h:aA H (A 0::cellsA b (bU .i64 f 65 0) 157::F))
  (y:∀j,j<65->f j=0->A j=A (j+1))
  (x:∀j,j<65->f j≠0->∀(G:List aD) (m:aC) (s:KQ),aA m (A j::G)->(∀H2,aA H2 (A (j+1)::G)->s (.bool true) H2)->(∀H2,aA H2 (u::G)->s (.bool false) H2)->
   eK Tryz.prog l [aB (j:Nat),aB (f j)] m s)
  (k:∀H',aA H' (A 65::cellsA b (bU .i64 f 65 0) 157::F)->K (.tuple #[]) H')
  (C:∀H',aA H' (u::cellsA b (bU .i64 f 65 0) 157::F)->K (.tuple #[]) H') :
  CF 314 #[.func (.yield l) #[] #[],PA b 0] H K:=by
 refine cN 314 0x15612399251283994 [[(18,sB)],[(6,sI)]] ?_;refine⟨f,h.rda 1 rfl,?_⟩;refine⟨λi H'=>∃j:Nat,i=j/\j<=65/\aA H' (A j::cellsA b (bU .i64 f 65 0) 157::F),λi _=>65-i.toNat,⟨0,rfl,by omega,h⟩,?_⟩
 rintro i m ⟨j,rfl,D,h⟩;refine⟨λw=>?_,λw=>?_⟩
 .have a:j<65:=by grind
  refine⟨_,idx60 (by omega) (by omega),?_⟩;rw[VL];have c:∀H2,aA H2 (A (j+1)::cellsA b (bU .i64 f 65 0) 157::F)->(∃t:Nat,i64.wrap ((j:Int)+1)=t/\t<=65/\aA H2 (A t::cellsA b (bU .i64 f 65 0) 157::F))/\65-(i64.wrap ((j:Int)+1)).toNat<65-((j:Int)).toNat:=by
   intro H2 h;rw[show i64.wrap ((j:Int)+1)=((j+1:Nat):Int) by grind [aJ]]
   grind
  refine λE n=>⟨λv=>?_,λv=>?_⟩
  .have e:f j≠0:=by grind
   refine x j a e _ _ _ h (λH2 h=>⟨true,rfl,n _ _ ?_⟩) (λH2 h=>⟨false,rfl,n _ _ ?_⟩)
   .skip
    exact⟨λd=>by simp at d,λ_=>c _ h⟩
   .skip
    exact⟨λ_=>C _ h,λd=>by simp at d⟩
  .have B:f j=0:=by grind
   refine n _ _ ?_;rw[y j a B]at h;exact⟨λd=>by simp at d,λ_=>c _ h⟩
 .have:j=65:=by grind
  subst this;exact k _ h
end
theorem Gf(c:Cl){j:Nat}(a:j<65):aI (dm c) (7+j)=some (aB (c.h j)):=by
 refine (y5 (l:=[aB c.n,aB (whi c.sum),.int .u64 (wlo c.sum),aB c.mn,aB c.mx,aB c.cer,aB c.pos]) j).trans ?_;rw[tJ _ _ _ _ _ a,VB]
section
variable {F L:List aD}{H:aC}{K:KQ}
theorem eqW(x y:Int):fH Tryz.prog .neq 155 (kg x) (kg y) (!decide (x=y))/\fH Tryz.prog .eql 155 (kg x) (kg y) (decide (x=y)):=by
 have h:=rz (P:=Tryz.prog) (t:=155) (xs:=[aB (whi x),.int .u64 (wlo x)]) (ys:=[aB (whi y),.int .u64 (wlo y)]) (r:=(whi x == whi y&&(wlo x == wlo y&&true))) (by kernel_rfl);have e:(whi x == whi y&&(wlo x == wlo y&&true))=decide (x=y):=by
  grind
 grind
theorem vW{c:Cl}(wc:WC c)(h:aA H F)(k:∀H',aA H' F->K (.bool (gD c)) H'):CF 120 #[aggC c] H K:=by
 refine cL 120 (.r (.seq (.r (.cond (.r .no) .no)) (.seq (.r (.blk (.loop [(30,sI)] (.r (.seq (.cond .no .no) (.seq (.blk (.r (.r (.cond (.r .no) .no)))) .reg)))))) (.seq (.r (.cond (.r .no) .no)) (.seq (.r (.cond (.r .no) .no)) (.seq (.regJ [(5,sA),(6,sA)]) (.seq (.r (.cond (.r .no) .no)) (.seq (.r (.blk (.rng [sI,sI] [none,(some .ret)] .reg (.blk (.r (.cond (.r .no) .no)))))) (.r .no))))))))) ?_;unfold gD at k;refine h.al λb _ h=>?_
 refine h.al λb1 _ h=>?_
 refine⟨_,h.r 1,_,λ_=>h.r 1,_,λ_=>h.r 1,_,λ_=>h.r 1,_,λ_=>h.r 1,λv=>?_,λv=>?_⟩
 .rw [v]at k;refine h.sta 0 rfl rfl λH2 h=>⟨_,h.r 0,?_⟩
  exact k _ h.tl.tl
 rw[v]at k;refine⟨c.h,h.rdt (l:=[_,_,_,_,_,_,_]) 1 rfl rfl,?_⟩;refine⟨λi H'=>∃j:Nat,i=j/\j<=65/\(∀q,q<j->0<=c.h q)/\aA H' (cellsA b1 [.bool false] 4::cellsA b (dm c) 159::F),λi _=>65-i.toNat,⟨0,rfl,by omega,λ_ h=>by omega,h⟩,?_⟩
 rintro i H1 ⟨j,rfl,L,hp,h⟩;refine⟨λC=>?_,λC=>?_⟩
 .have T:j<65:=by grind
  refine⟨_,idx60 (by omega) (by omega),?_⟩;rw[VL];refine⟨λs=>?_,λs=>?_⟩
  .have s:=V3 s;have:nV c.h=false:=by
    rw[WA]
    grind [qf]
   rw[this]at k;refine h.sta 0 rfl rfl λH2 h=>⟨_,h.r 0,?_⟩
   exact k _ h.tl.tl
  .have s:=V2 s
   conv=>whnf
   rw[show i64.wrap ((j:Int)+1)=((j+1:Nat):Int) by grind [aJ]]
   grind
 .have m:j=65:=by grind
  subst m;have S:nV c.h=true:=qf.2 hp;rw[S]at k;refine⟨c.h,h.rdt (l:=[_,_,_,_,_,_,_]) 1 rfl rfl,_,h.r 1,?_⟩;refine PT wc.h h λH2 h=>⟨_,_,rfl,h.r 1,?_⟩
  refine zk wc.n h λH3 h=>⟨_,_,rfl,_,(eqW _ _).1,λE=>?_,λE=>?_⟩
  .have:decide (sumC c.h=c.n)=false:=by grind
   rw[this]at k;refine h.sta 0 rfl rfl λH2 h=>⟨_,h.r 0,?_⟩
   exact k _ h.tl.tl
  have hs:decide (sumC c.h=c.n)=true:=by grind
  rw[hs]at k;simp only[Bool.not_false,Bool.true_and]at k;refine⟨_,h.r 1,λd=>?_,λd=>?_⟩
  .rw [V1 (V3 d)]at k;have e0:=(eqW c.sum 0).2;refine⟨_,_,h.rdv (l:=[_]) (vs:=[_,_]) 1 rfl rfl,_,e0,_,λ_=>h.r 1,_,λ_=>h.r 1,?_⟩
   refine h.sta 0 rfl rfl λH2 h=>⟨_,h.r 0,?_⟩
   exact k _ h.tl.tl
  .rw [Vz (V2 d)]at k;have bl:=oN wc.mn;have Y:=oN wc.mx;intro Jn Z;have fin:∀lb hb t,aA t (cellsA lb [aB (bW c.mn)] 3::cellsA hb [aB (bW c.mx)] 3::cellsA b1 [.bool false] 4::cellsA b (dm c) 159::F)->Jn lb 0 hb 0 t:=by
    intro lb hb t h;refine Z _ _ _ _ _ ?_;have g1:aM t b (7+(bW c.mn).toNat)=some (aB (c.h (bW c.mn).toNat)):=by rw[h.rd 3 rfl];grind [Gf]
    have g2:aM t b (7+(bW c.mx).toNat)=some (aB (c.h (bW c.mx).toNat)):=by rw[h.rd 3 rfl];grind [Gf]
    refine⟨_,h.r 0,bl,_,g1,_,λ_=>h.r 1,λ_=>Y,_,λ_=>g2,λe=>?_,λe=>?_⟩
    .rw [e]at k;refine h.sta 2 rfl rfl λH2 h=>⟨_,h.r 2,?_⟩
     exact k _ h.tl.tl.tl.tl
    rw[e]at k;simp only[Bool.not_false,Bool.true_and]at k;refine⟨c.h,h.rdt (l:=[_,_,_,_,_,_,_]) 3 rfl rfl,?_⟩;refine Gc h λfb I h=>⟨_,_,rfl,rfl,λR y x Q=>?_⟩
    have h:=h.rng R;refine Ge (f:=c.h) (λj=>star [cellsA lb [aB (bW c.mn)] 3,cellsA hb [aB (bW c.mx)] 3,cellsA b1 [.bool false] 4,pt (I.size+1) (.loop R),pur (∀q,q<j->c.h q=0\/bW c.mn<=q/\(q:Int)<=bW c.mx)])
     (star [cellsA lb [aB (bW c.mn)] 3,cellsA hb [aB (bW c.mx)] 3,cellsA b1 [.bool false] 4,pt (I.size+1) (.loop { R with state:=.done,pending:=some .ret }),pur (inB c=false)])
     (F:=pt I.size (.deferred (some []))::cellsA b (dm c) 159::F) ?_ ?_ ?_ ?_ ?_
    .refine aA.shut [_,_,_,_,_] ?_;have W:=((h.o [3,4,5,0,2,1,6] 7).pur (p:=∀q:Nat,q<0->c.h q=0\/bW c.mn<=q/\(q:Int)<=bW c.mx) (λq u=>V0 u (Nat.not_lt_zero q)))
     exact W.o [1,2,3,4,0] 5
    .intro j L hz;have:(∀q,q<j->c.h q=0\/bW c.mn<=q/\(q:Int)<=bW c.mx)=(∀q,q<j+1->c.h q=0\/bW c.mn<=q/\(q:Int)<=bW c.mx):=propext ⟨λM q u=>by
      grind,λM q u=>M q (by omega)⟩
     grind
    .intro j L N G J K1 h U P;have h:=aA.open (A:=[_,_,_,_,_]) h;have w:=(aA.consP (h.o [4,0,1,2,3] 5)).1;refine Q _ _ _ ?_;refine⟨_,_,rfl,h.getO 3 rfl,h.getO 3 rfl,h.stl 3 rfl λH7 h=>⟨_,h.r 0,_,λ_=>h.r 1,λB=>?_,λB=>?_⟩⟩
     .refine h.sta 2 rfl rfl λH8 h=>⟨h.getO 3 rfl,P _ ?_⟩
      have h:=h.setO 3 rfl (.loop { R with state:=.done,pending:=some .ret });have a:inB c=false:=by
       rw[WA];intro a;unfold inB at a
       grind
      refine aA.shut [_,_,_,_,_] ?_;exact ((h.pur a).o [1,2,3,4,0] 6)
     .refine⟨h.getO 3 rfl,U _ ?_⟩;have h:=h.setO 3 rfl (.loop R);refine aA.shut [_,_,_,_,_] ?_;have D:∀q,q<j+1->c.h q=0\/bW c.mn<=q/\(q:Int)<=bW c.mx:=λq u=>by
       grind
      exact ((h.pur D).o [1,2,3,4,0] 6)
    .intro J h;have h:=aA.open (A:=[_,_,_,_,_]) h;have w:=(aA.consP (h.o [4,0,1,2,3] 5)).1;have a:inB c=true:=by
      unfold inB
      grind
     rw[a]at k;refine⟨.ready,none,by decide,by rw[kT y x];exact h.getO 3 rfl,h.stl 3 rfl λO h=>.inl ⟨rfl,?_⟩⟩
     refine h.sta 2 rfl rfl λV h=>⟨h.getO 6 rfl,?_⟩
     have h:=h.setO 6 rfl (.deferred none);exact⟨_,h.r 2,k _ (h.o [7] 8).tl⟩
    .intro J h;have h:=aA.open (A:=[_,_,_,_,_]) h;have a:=(aA.consP (h.o [4,0,1,2,3] 5)).1;rw[a]at k;refine⟨.done,some .ret,by decide,h.getO 3 rfl,h.stl 3 rfl λO h=>.inr ⟨rfl,h.getO 6 rfl,?_⟩⟩
     have h:=h.setO 6 rfl (.deferred none);exact⟨_,h.r 2,k _ (h.o [7] 8).tl⟩
   refine⟨_,h.r 1,_,lV wc.mn,_,h.r 1,_,lV wc.mx,?_,?_⟩
   .refine h.al λlb _ h=>⟨lV wc.mx,h.r 2,lV wc.mn,h.r 2,?_⟩
    refine h.al λhb _ h=>⟨lV wc.mx,h.r 3,lV wc.mn,h.r 3,?_⟩
    refine h.sta 1 rfl rfl λ_ h=>h.sta 0 rfl rfl λ_ h=>?_
    exact fin _ _ _ (h.o [1,0] 2)
   .refine h.al λlb _ h=>⟨lV wc.mx,h.r 2,lV wc.mn,h.r 2,?_⟩
    refine h.al λhb _ h=>⟨lV wc.mx,h.r 3,lV wc.mn,h.r 3,?_⟩
    refine h.sta 0 rfl rfl λ_ h=>h.sta 1 rfl rfl λ_ h=>?_
    exact fin _ _ _ h
end
section
variable {H:aC}{L:List aD}
theorem aA.stv{Q:aC->Prop}{b e n o:Nat}{f:Nat->Int}{j:Nat}{x:Int}(h:aA H L)(i:Nat)(a:aS i L=cellsA b (bU .i64 f n 0) e)(c:j<n)(d:o=0+j)(k:∀H',aA H' (put i (cellsA b (bU .i64 (fx f j x) n 0) e) L)->Q H') :
  dJ H b o [aB x]/\∀H',H'=ee H b o [aB x]->Q H':=by
 subst d;rw[VB];refine⟨h.can i a j _ (by grind [vV]),?_⟩;rintro H' rfl;have:=h.set i a j [aB x];have e2:cq (bU .i64 f n 0) j [aB x]=bU .i64 (fx f j x) n 0:=by
  show (bU .i64 f n 0).set j (aB x)=_;rw[zj _ _ _ _ _ _ c,VB]
 rw[e2]at this;exact k _ this
theorem aA.stt{Q:aC->Prop}{b e o:Nat}{l r vs:Xb}(h:aA H L)(i:Nat)(a:aS i L=cellsA b (l++r) e)(c:o=l.length)(d:vs.length=r.length)(k:∀H',aA H' (put i (cellsA b (l++vs) e) L)->Q H') :
  dJ H b o vs/\∀H',H'=ee H b o vs->Q H':=by
 subst c;refine⟨h.can i a _ _ (by grind),?_⟩;rintro H' rfl;have:=h.set i a l.length vs;have e2:cq (l++r) l.length vs=l++vs:=by
  have:=tq vs l r 0;rw[Wk]at this
  grind [y6]
 rw[e2]at this;exact k _ this
end
section
variable {F L:List aD}{H:aC}{K:KQ}
theorem PU{f:Nat->Int}{v:Int}(s:wfH f)(m:aG v)(h:aA H F)(k:∀H',aA H' F->K (.tuple #[.agg ⟨bU .i64 (iw f v).1 65 0⟩,aB (iw f v).2]) H') :
  CF 487 #[.agg ⟨bU .i64 f 65 0⟩,aB v] H K:=by
 refine cM 487 1907996 ?_;unfold iw at k;refine h.al λb _ h=>?_
 refine h.al λb1 _ h=>⟨f,h.rda 1 rfl,?_⟩
 refine PN h λH2 h=>⟨_,rfl,λn=>?_,λn=>?_⟩
 .rw [V1 (by grind)]at k;refine h.sta 0 rfl rfl λi h=>⟨_,h.rda 0 rfl,k _ h.tl.tl⟩
 rw[Vz (by grind)]at k;have hb:=oN m;have d:(bW v).toNat<65:=by omega
 have a:aM H2 b (0+(bW v).toNat)=some (aB (f (bW v).toNat)):=by
  rw[h.rd 1 rfl,VB,tJ _ _ _ _ _ d,VB]
 refine⟨_,lV m,hb,_,a,λc=>?_,λc=>?_⟩
 .rw [V1 (V3 c)]at k;refine h.sta 0 rfl rfl λi h=>⟨_,h.rda 0 rfl,k _ h.tl.tl⟩
 have e:=V2 c;rw[Vz e]at k;have j:=s _ d;unfold aG at j;refine⟨hb,_,a,hb,?_⟩;rw[aJ (x:=f (bW v).toNat+1)];refine h.stv 1 rfl d rfl λi h=>⟨_,h.rda 1 rfl,?_⟩
 refine h.sta 0 rfl rfl λi h=>⟨_,h.rda 0 rfl,k _ h.tl.tl⟩
theorem Gh{c:Cl}{a:Bool}(wc:WC c)(h:aA H F)(k:∀H',aA H' F->K (.tuple #[aggC (fS c a).1,aB (fS c a).2]) H') :
  CF 463 #[aggC c,.bool a] H K:=by
 refine cN 463 1997721083164 [[(6,sP)]] ?_;unfold fS at k;have wn:=Gb wc;refine h.al λb _ h=>?_
 refine h.al λb1 _ h=>⟨_,_,_,_,_,_,_,_,h.rda 1 rfl,?_⟩
 refine vW wc h λH2 h=>⟨_,rfl,λf=>?_,λf=>?_⟩
 .rw [V1 (by grind)]at k;refine h.sta 0 rfl rfl λd h=>⟨_,_,_,_,_,_,_,_,h.rda 0 rfl,k _ h.tl.tl⟩
 rw[Vz (by grind)]at k;refine λi e=>⟨λhb=>e _ _ ?_,λhb=>e _ _ ?_⟩
 .rw [V1 hb]at k;refine⟨_,h.r 1,λhm=>?_,λhm=>?_⟩
  .rw [V1 (V3 hm)]at k;refine h.sta 0 rfl rfl λd h=>⟨_,_,_,_,_,_,_,_,h.rda 0 rfl,k _ h.tl.tl⟩
  .have hm:=V2 hm;rw[Vz hm]at k;have:=wc.cer;unfold aG at this;refine⟨_,h.r 1,?_⟩
   conv=>whnf
   rw[aJ (x:=c.cer+1)];refine h.st 1 rfl rfl λd h=>?_
   have h:aA d (cellsA b1 (dm Cl.z) 159::cellsA b (dm { c with cer:=c.cer+1 }) 159::F):=h;refine⟨_,_,_,_,_,_,_,_,h.rda 1 rfl,?_⟩;refine h.sta 0 rfl rfl λd h=>⟨_,_,_,_,_,_,_,_,h.rda 0 rfl,k _ h.tl.tl⟩
 .rw [Vz (by grind)]at k;refine⟨_,h.r 1,λhm=>?_,λhm=>?_⟩
  .rw [V1 (V3 hm)]at k;refine h.sta 0 rfl rfl λd h=>⟨_,_,_,_,_,_,_,_,h.rda 0 rfl,k _ h.tl.tl⟩
  .have hm:=V2 hm;rw[Vz hm]at k;have:=wc.pos;unfold aG at this;refine⟨_,h.r 1,?_⟩
   conv=>whnf
   rw[aJ (x:=c.pos+1)];refine h.st 1 rfl rfl λd h=>?_
   have h:aA d (cellsA b1 (dm Cl.z) 159::cellsA b (dm { c with pos:=c.pos+1 }) 159::F):=h;refine⟨_,_,_,_,_,_,_,_,h.rda 1 rfl,?_⟩;refine h.sta 0 rfl rfl λd h=>⟨_,_,_,_,_,_,_,_,h.rda 0 rfl,k _ h.tl.tl⟩
theorem PW{c:Cl}{v:Int}(wc:WC c)(j:aG v)(h:aA H F)(k:∀H',aA H' F->K (.tuple #[aggC (jm c v).1,aB (jm c v).2]) H') :
  CF 466 #[aggC c,aB v] H K:=by
 refine cN 466 0x1d1d28d1d2174911c [[],[(7,sI),(8,sA)]] ?_;unfold jm at k;refine h.al λb _ h=>?_
 refine h.al λb1 _ h=>⟨_,_,_,_,_,_,_,_,h.rda 1 rfl,?_⟩
 refine vW wc h λH2 h=>⟨_,rfl,λB=>?_,λB=>?_⟩
 .rw [V1 (by grind)]at k;refine h.sta 0 rfl rfl λf h=>⟨_,_,_,_,_,_,_,_,h.rda 0 rfl,k _ h.tl.tl⟩
 rw[Vz (by grind)]at k;refine⟨_,h.r 1,_,_,EH wc.n (by decide),λC=>?_,λC=>?_⟩
 .rw [V1 (by grind)]at k;refine h.sta 0 rfl rfl λf h=>⟨_,_,_,_,_,_,_,_,h.rda 0 rfl,k _ h.tl.tl⟩
 rw[Vz (by grind)]at k;intro I E;have a:fQ v:=by unfold aG at j;unfold fQ;omega
 have fin:∀sb e,aA e (cellsA sb [aB (whi (fR c.sum v).1),.int .u64 (wlo (fR c.sum v).1)] 155::cellsA b1 (dm Cl.z) 159::cellsA b (dm c) 159::F)->I (fR c.sum v).2 sb 0 e:=by
  intro sb e h;refine E _ _ _ _ ?_;refine⟨λG=>?_,λG=>?_⟩
  .rw [V1 (by grind)]at k;refine h.sta 1 rfl rfl λf h=>⟨_,_,_,_,_,_,_,_,h.rda 1 rfl,k _ h.tl.tl.tl⟩
  rw[Vz (by grind)]at k;refine⟨c.h,h.rdt (l:=[_,_,_,_,_,_,_]) 2 rfl rfl,?_⟩;refine PU wc.h j h λw h=>⟨_,_,rfl,?_⟩
  refine h.al λb2 _ h=>?_
  refine h.sta 0 rfl rfl λL h=>⟨λD=>?_,λD=>?_⟩
  .rw [V1 (by grind)]at k;refine h.sta 2 rfl rfl λf h=>⟨_,_,_,_,_,_,_,_,h.rda 2 rfl,k _ h.tl.tl.tl.tl⟩
  rw[Vz (by grind)]at k;refine⟨_,h.r 3,λt m=>?_⟩
  dsimp only at k;have d:∀(mn mx:Int) s,mn=(if c.n=0 then v else c.mn)->mx=(if c.n=0 then v else c.mx)->aA s (cellsA b2 (bU .i64 (iw c.h v).1 65 0) 157::cellsA sb [aB (whi (fR c.sum v).1),.int .u64 (wlo (fR c.sum v).1)] 155::cellsA b1 (dm Cl.z) 159::cellsA b (dm { c with mn:=mn,mx:=mx }) 159::F)->t s:=by
   intro mn mx s e1 e2 h;refine m _ ?_;rw[<-e1,<-e2]at k;refine⟨_,_,h.rda 1 rfl,_,h.rda 0 rfl,?_⟩;refine h.st 3 rfl rfl λA h=>⟨h.rda 0 rfl,h.rda 1 rfl,?_⟩
   refine h.st 3 rfl rfl λy h=>⟨h.rda 0 rfl,?_⟩
   have h:aA y (cellsA b2 (bU .i64 (iw c.h v).1 65 0) 157::cellsA sb [aB (whi (fR c.sum v).1),.int .u64 (wlo (fR c.sum v).1)] 155::cellsA b1 (dm Cl.z) 159::cellsA b (dm { c with n:=(iS c.n 1).1,sum:=(fR c.sum v).1,mn:=mn,mx:=mx }) 159::F):=h;refine h.stt (l:=[_,_,_,_,_,_,_]) 3 rfl rfl rfl λu h=>?_
   have h:aA u (cellsA b2 (bU .i64 (iw c.h v).1 65 0) 157::cellsA sb [aB (whi (fR c.sum v).1),.int .u64 (wlo (fR c.sum v).1)] 155::cellsA b1 (dm Cl.z) 159::cellsA b (dm { c with n:=(iS c.n 1).1,sum:=(fR c.sum v).1,mn:=mn,mx:=mx,h:=(iw c.h v).1 }) 159::F):=h;refine⟨_,h.r 3,_,h.r 3,?_⟩;refine h.st 3 rfl rfl λJ h=>?_
   refine h.st 3 rfl rfl λx h=>?_
   have h:aA x (cellsA b2 (bU .i64 (iw c.h v).1 65 0) 157::cellsA sb [aB (whi (fR c.sum v).1),.int .u64 (wlo (fR c.sum v).1)] 155::cellsA b1 (dm Cl.z) 159::
    cellsA b (dm { c with n:=(iS c.n 1).1,sum:=(fR c.sum v).1,mn:=if v<mn then v else mn,mx:=if v>mx then v else mx,h:=(iw c.h v).1 }) 159::F):=h
   refine⟨_,_,_,_,_,_,_,_,h.rda 3 rfl,?_⟩;refine h.sta 2 rfl rfl λf h=>⟨_,_,_,_,_,_,_,_,h.rda 2 rfl,k _ h.tl.tl.tl.tl⟩
  refine⟨λi=>?_,λi=>?_⟩
  .have i:=V3 i;refine h.st 3 rfl rfl λA h=>?_
   refine h.st 3 rfl rfl λy h=>?_
   exact d v v _ (by grind) (by grind) h
  .have i:=V2 i;exact d c.mn c.mx _ (by grind) (by grind) h
 refine⟨_,_,h.rdv (l:=[_]) (vs:=[_,_]) 1 rfl rfl,?_,?_⟩
 .refine zk j h λf h=>⟨_,_,rfl,h.rdv (l:=[_]) (vs:=[_,_]) 1 rfl rfl,?_,?_⟩
  .refine zl wc.sum a h λe h=>⟨_,_,_,rfl,?_⟩
   refine h.al λb3 _ h=>?_
   refine h.sta 0 rfl rfl λw h=>fin _ _ h
  .refine h.al λb3 _ h=>⟨h.rdv (l:=[_]) (vs:=[_,_]) 2 rfl rfl,?_⟩
   refine zl wc.sum a h λe h=>⟨_,_,_,rfl,?_⟩
   refine h.sta 0 rfl rfl λw h=>fin _ _ h
 .refine h.al λb3 _ h=>⟨h.rdv (l:=[_]) (vs:=[_,_]) 2 rfl rfl,?_⟩
  refine zk j h λf h=>⟨_,_,rfl,h.rdv (l:=[_]) (vs:=[_,_]) 2 rfl rfl,?_⟩
  refine zl wc.sum a h λe h=>⟨_,_,_,rfl,?_⟩
  refine h.sta 0 rfl rfl λw h=>fin _ _ h
end
end Go.Proofs.YtnjaappmhadfdaaGreatDoor
