/-
  Proved: for every input, GateRecovers returns true and leaves its arguments as they were; the card ties what the row lists to the program's text. Conditions: none beyond the row's own.
-/
import Derived.Test.YtaaieblnikcndaaGreatDoorGR10
import Derived.Test.YtaaieblnikcndaaGreatDoorRows
import Derived.Test.YtaaieblnikcndaaGreatDoorCards
import Derived.Test.YtaaieblnikcndaaGreatDoorTie
import Derived.LaidMore
import Derived.Lay
import Derived.SevenTiedAt
import Derived.Stop.Joined
set_option linter.unusedVariables false
set_option linter.unusedSimpArgs false
namespace Go.Proofs.YtaaieblnikcndaaGreatDoor
open Go Go.Proofs Go.ChangeShapes Go.WideShapes Go.ChangeAt Go.RowKit
abbrev laid_:List (String × DataW Unit):=[("unicode/utf8.acceptRanges",Rows.laid_unicode_utf8_acceptRanges),("unicode/utf8.first",Rows.laid_unicode_utf8_first)]
theorem own_:ownKnob Tryz.prog.godebug=none:=by kernel_rfl
theorem laidOut_:laidOutB Tryz.prog=true:=by kernel_rfl
set_option maxRecDepth 100000 in
theorem jf0:(Rows.gateRecoversRow.wf (OpenSpec.ofChange Rows.gateRecoversSpec))=true:=by kernel_rfl
set_option maxRecDepth 100000 in
theorem jf1:(laidOutB Tryz.pinned.checked.prog)=true:=by kernel_rfl
set_option maxRecDepth 100000 in
theorem jf2:(mapsRowed Tryz.pinned.checked.prog)=true:=by kernel_rfl
set_option maxRecDepth 100000 in
theorem jf3:(Tryz.f3.params.all (Tryz.pinned.checked.prog.readableRec ·))=true:=by kernel_rfl
set_option maxRecDepth 100000 in
theorem jf4:(namedTie Tryz.pinned.checked.prog Rows.gateRecoversRow.named Rows.gateRecoversSpec.vars)=true:=by kernel_rfl
set_option maxRecDepth 100000 in
theorem jf5:((Rows.gateRecoversRow.stops == []))=true:=by kernel_rfl
set_option maxRecDepth 100000 in
theorem jf6:((Tryz.pinned.checked.prog.stops == []))=true:=by kernel_rfl
set_option maxRecDepth 100000 in
theorem jf7:((Rows.gateRecoversRow.knobs == []))=true:=by kernel_rfl
set_option maxRecDepth 100000 in
theorem jf8:((Tryz.pinned.checked.prog.stopKnobs == []))=true:=by kernel_rfl
set_option maxRecDepth 100000 in
theorem jf9:((Rows.gateRecoversRow.inPlace == Tryz.pinned.checked.prog.inPlace 3))=true:=by kernel_rfl
set_option maxRecDepth 100000 in
theorem jf10:((Rows.gateRecoversRow.unfollowed == Tryz.pinned.checked.prog.unfollowed 3))=true:=by kernel_rfl
set_option maxRecDepth 100000 in
theorem jf11:((Rows.gateRecoversRow.recurses == Tryz.pinned.checked.prog.recurses 3))=true:=by kernel_rfl
set_option maxRecDepth 100000 in
theorem jf12:((Rows.gateRecoversRow.named == Tryz.pinned.checked.prog.varsNamed 3))=true:=by kernel_rfl
set_option maxRecDepth 100000 in
theorem jf13:((Rows.gateRecoversRow.maps == (Tryz.f3.params.toList++Rows.gateRecoversSpec.plain.varTypes Tryz.pinned.checked.prog).any (Tryz.pinned.checked.prog.mapsRec ·)))=true:=by kernel_rfl
set_option maxRecDepth 100000 in
theorem jf14:((Rows.gateRecoversRow.ifaces == (Tryz.f3.params.toList++Rows.gateRecoversSpec.plain.varTypes Tryz.pinned.checked.prog).any (Tryz.pinned.checked.prog.ifacesRec ·)))=true:=by kernel_rfl
set_option maxRecDepth 100000 in
theorem jf15:((Rows.gateRecoversRow.mapsOut == Tryz.pinned.checked.prog.mapsAmong Tryz.f3.resultTypes.toList))=true:=by kernel_rfl
set_option maxRecDepth 100000 in
theorem jf16:((Rows.gateRecoversRow.loops == (Tryz.f3.params.toList++Rows.gateRecoversSpec.plain.varTypes Tryz.pinned.checked.prog).any (Tryz.pinned.checked.prog.loopsFrom ·)))=true:=by kernel_rfl
set_option maxRecDepth 100000 in
theorem jf17:((Rows.gateRecoversRow.wideKeys == (Tryz.f3.params.toList++Rows.gateRecoversSpec.plain.varTypes Tryz.pinned.checked.prog++Tryz.f3.resultTypes.toList).any (Tryz.pinned.checked.prog.wideKeysFrom ·)))=true:=by kernel_rfl
set_option maxRecDepth 100000 in
theorem jf18:(Rows.gateRecoversSpec.vars.all (Tryz.pinned.checked.prog.varReadable ·))=true:=by kernel_rfl
set_option maxRecDepth 100000 in
theorem jf19:(Tryz.f3.resultTypes.all (fun t=>Tryz.pinned.checked.prog.readableRec t && decide (t < Tryz.pinned.checked.prog.types.size)))=true:=by kernel_rfl
set_option maxRecDepth 100000 in
theorem jf20:((Rows.gateRecoversRow.ifacesOut == Tryz.f3.resultTypes.toList.any (Tryz.pinned.checked.prog.ifacesRec ·)))=true:=by kernel_rfl
set_option maxRecDepth 100000 in
theorem jf21:((Rows.gateRecoversRow.loopsOut == Tryz.f3.resultTypes.toList.any (Tryz.pinned.checked.prog.loopsFrom ·)))=true:=by kernel_rfl
set_option maxRecDepth 100000 in
theorem jf22:((Rows.gateRecoversRow.plainKeys == Tryz.pinned.checked.prog.plainKeys))=true:=by kernel_rfl
set_option maxRecDepth 100000 in
theorem jf23:(Rows.gateRecoversRow.shortTexts.isNone)=true:=by kernel_rfl
set_option maxRecDepth 100000 in
theorem jf24:(Tryz.pinned.checked.prog.stopsHeard)=true:=by kernel_rfl
set_option maxRecDepth 100000 in
theorem jf25:(Tryz.pinned.checked.prog.mayEnter)=true:=by kernel_rfl
set_option maxRecDepth 100000 in
theorem jf26:((Rows.gateRecoversRow.lifted == Tryz.pinned.checked.prog.liftsFinal))=true:=by kernel_rfl
set_option maxRecDepth 100000 in
theorem jf27:((Tryz.pinned.checked.prog.make == some Rows.gateRecoversRow.make))=true:=by kernel_rfl
set_option maxRecDepth 100000 in
theorem jf28:((Rows.gateRecoversRow.kinds == (if Rows.gateRecoversRow.domain.isEmpty then [] else Tryz.f3.params.toList.map fun t=>match Tryz.pinned.checked.prog.underlying t with|some (.int k)=>some k|_=>none)))=true:=by kernel_rfl
set_option maxRecDepth 100000 in
theorem jf29:((Rows.gateRecoversRow.pinned == Rows.gateRecoversRow.pinnedBy))=true:=by kernel_rfl
set_option maxRecDepth 100000 in
theorem jf30:((Rows.gateRecoversRow.veiled == (Tryz.f3.params.toList++Rows.gateRecoversSpec.plain.varTypes Tryz.pinned.checked.prog++Tryz.f3.resultTypes.toList).any (Tryz.pinned.checked.prog.veiledRec ·)))=true:=by kernel_rfl
set_option maxRecDepth 100000 in
theorem jf31:(Rows.gateRecoversRow.veiledFits Tryz.pinned.checked.prog Tryz.f3.params.toList (Tryz.f3.params.toList++Rows.gateRecoversSpec.plain.varTypes Tryz.pinned.checked.prog++Tryz.f3.resultTypes.toList))=true:=by kernel_rfl
theorem joined_of {P:Program}{f:FuncId}{fn:Func}{s:ChangeSpec}{c:OpenClaim}(h0:(c.wf (OpenSpec.ofChange s))=true)(h1:(laidOutB P)=true)(h2:(mapsRowed P)=true)(h3:(fn.params.all (P.readableRec ·))=true)(h4:(namedTie P c.named s.vars)=true)(h5:((c.stops == []))=true)(h6:((P.stops == []))=true)(h7:((c.knobs == []))=true)(h8:((P.stopKnobs == []))=true)(h9:((c.inPlace == P.inPlace f))=true)(h10:((c.unfollowed == P.unfollowed f))=true)(h11:((c.recurses == P.recurses f))=true)(h12:((c.named == P.varsNamed f))=true)(h13:((c.maps == (fn.params.toList++s.plain.varTypes P).any (P.mapsRec ·)))=true)(h14:((c.ifaces == (fn.params.toList++s.plain.varTypes P).any (P.ifacesRec ·)))=true)(h15:((c.mapsOut == P.mapsAmong fn.resultTypes.toList))=true)(h16:((c.loops == (fn.params.toList++s.plain.varTypes P).any (P.loopsFrom ·)))=true)(h17:((c.wideKeys == (fn.params.toList++s.plain.varTypes P++fn.resultTypes.toList).any (P.wideKeysFrom ·)))=true)(h18:(s.vars.all (P.varReadable ·))=true)(h19:(fn.resultTypes.all (fun t=>P.readableRec t && decide (t < P.types.size)))=true)(h20:((c.ifacesOut == fn.resultTypes.toList.any (P.ifacesRec ·)))=true)(h21:((c.loopsOut == fn.resultTypes.toList.any (P.loopsFrom ·)))=true)(h22:((c.plainKeys == P.plainKeys))=true)(h23:(c.shortTexts.isNone)=true)(h24:(P.stopsHeard)=true)(h25:(P.mayEnter)=true)(h26:((c.lifted == P.liftsFinal))=true)(h27:((P.make == some c.make))=true)(h28:((c.kinds == (if c.domain.isEmpty then [] else fn.params.toList.map fun t=>match P.underlying t with|some (.int k)=>some k|_=>none)))=true)(h29:((c.pinned == c.pinnedBy))=true)(h30:((c.veiled == (fn.params.toList++s.plain.varTypes P++fn.resultTypes.toList).any (P.veiledRec ·)))=true)(h31:(c.veiledFits P fn.params.toList (fn.params.toList++s.plain.varTypes P++fn.resultTypes.toList))=true):joinedFacts P f fn s c=true:=by
 unfold joinedFacts
 simp only [Bool.and_eq_true]
 exact⟨⟨⟨⟨⟨⟨⟨⟨⟨⟨⟨⟨⟨⟨⟨⟨⟨⟨⟨⟨⟨⟨⟨⟨⟨⟨⟨⟨⟨⟨⟨h0,h1⟩,h2⟩,h3⟩,h4⟩,h5⟩,h6⟩,h7⟩,h8⟩,h9⟩,h10⟩,h11⟩,h12⟩,h13⟩,h14⟩,h15⟩,h16⟩,h17⟩,h18⟩,h19⟩,h20⟩,h21⟩,h22⟩,h23⟩,h24⟩,h25⟩,h26⟩,h27⟩,h28⟩,h29⟩,h30⟩,h31⟩
theorem jf_:joinedFacts Tryz.pinned.checked.prog 3 Tryz.f3 Rows.gateRecoversSpec Rows.gateRecoversRow=true:=joined_of (P:=Tryz.pinned.checked.prog) (f:=3) (fn:=Tryz.f3) (s:=Rows.gateRecoversSpec) (c:=Rows.gateRecoversRow) jf0 jf1 jf2 jf3 jf4 jf5 jf6 jf7 jf8 jf9 jf10 jf11 jf12 jf13 jf14 jf15 jf16 jf17 jf18 jf19 jf20 jf21 jf22 jf23 jf24 jf25 jf26 jf27 jf28 jf29 jf30 jf31
set_option maxRecDepth 100000 in
theorem gateRecovers_lifted (os:Go.Os)(started:os.Started)(H:Type)(enc:TypeId × Value→H) :
  ReturnsInHanded {} Tryz.checked os 3 .any (fun w args=>(Rows.gateRecoversSpec.pre enc Tryz.prog Tryz.f3 Rows.gateRecoversRow.domain false w args∧laidMetH Tryz.prog laid_ w)∧sizedMet enc Tryz.prog Tryz.f3 (OpenSpec.ofChange Rows.gateRecoversSpec) false w args)
   (Rows.gateRecoversSpec.post enc Tryz.prog Tryz.f3 false true false false):=by
 refine returnsInHanded_of_change_and (C:=Tryz.checked) (X:=fun w _=>laidMetH Tryz.prog laid_ w) (fun _ _ _ hh h=>h.of_heap hh) own_ started (by kernel_rfl) Tryz.func3
  (ChangeSpec.witness_shaped (enc:=enc) (C:=Tryz.checked) (os:=os) (X:=fun w _=>laidMetH Tryz.prog laid_ w) false (World.laidAll Tryz.prog os laid_) #[.agg #[.int .i64 0,.int .i64 0,.int .i64 0,.int .i64 0,.int .i64 0,.int .i64 0,.int .i64 0,.int .i64 0,.int .i64 0,.int .i64 0,.int .i64 0,.int .i64 0,.int .i64 0],.slice none 0 0] 8 (World.laidAll_os _ _ _)
   (World.shaped_of_ZipB (by kernel_rfl) (by kernel_rfl)) (by kernel_rfl) (by kernel_rfl) (by kernel_rfl)
   (by rw [MakeChecks.laidMetH_plain _ _ _ (by kernel_rfl)]; exact laidMet_laidAll _ (by kernel_rfl) (by kernel_rfl))) ?_
 intro W base args ds gs before hval0 hW hcnd _ _ _
 have hval:∀(j:Nat) t v,Tryz.f3.params[j]?=some t→args[j]?=some v→Value.okWide Tryz.prog W .any base t v:=hval0
 have hW':=hW
 obtain⟨p,q,hA0,hV,rfl,hfz,hnd⟩:=hW
 have hA00:DataW.TrodAll enc Tryz.prog W 0 (fun _=>true) true Tryz.f3.params.toList args.toList ds p:=hA0
 rw [Tryz.params3] at hA00 hval
 obtain⟨v0,r0,d0,ds0,p0,e0,rfl,g0,hA1⟩:=args_cons hA00
 obtain⟨v1,r1,d1,ds1,p1,rfl,rfl,g1,hA2⟩:=args_cons hA1
 obtain rfl:=args_nil hA2
 obtain rfl:args=#[v0,v1]:=by cases args; simp_all
 obtain⟨cs0,rfl⟩:=okWide_agg Tryz.underlying25 (hval 0 25 v0 rfl rfl)
 obtain⟨x0,ex0⟩:=reads_opt g0
 obtain rfl:cs0=⟨_⟩:=by cases cs0; exact congrArg Array.mk ex0
 obtain⟨a1,l1,c1,rfl⟩:=okWide_slice Tryz.underlying26 (hval 1 26 v1 rfl rfl)
 obtain⟨aa1,cc1,xs1,ec1,hl1,hr1,hq1⟩:=reads_calls g1
 simp only [Value.cells,List.cons.injEq,Value.slice.injEq,and_true] at ec1
 obtain⟨rfl,rfl,rfl⟩:=ec1
 refine law_post laidOut_ hW' rfl (by kernel_rfl) Tryz.underlying4 ?_ (by kernel_rfl) ?_
 ·obtain⟨rfl,rfl⟩:=trodVars_none hV
  have hnil:ds1=[]:=by cases ds1 with|nil=>rfl|cons _ _=>exact hA2.elim
  subst hnil
  rfl
 ·exact GateRecovers_true hl1 hr1 hq1
theorem gateRecovers_row:Rows.GateRecoversSaid:=
 OpenClaim.holds_of_wide 3 Tryz.f3 rfl rfl rfl rfl rfl rfl rfl ⟨rfl,rfl,rfl,rfl,rfl⟩ rfl rfl rfl rfl rfl (by kernel_rfl) Tryz.func3 jf_
  (of_decide_eq_true (by kernel_rfl)) (by unfold Func.isWrapper; first|(rw [if_pos (by decide +kernel)]; kernel_rfl)|(rw [if_neg (by decide +kernel)]; exact⟨rfl,rfl⟩))
  (fun os started H enc _=>gateRecovers_lifted os started H enc)
theorem cf1:Rows.gateRecoversRow.wfByText (OpenSpec.ofChange Rows.gateRecoversSpec)=true:=by kernel_rfl
theorem cf2:Tryz.pinned.checked.prog.mainIs=some (true,"49e245e563a1bf08009bc4a0b3ddc2d0b9353319f700ac4693181d753d56a6a3".toList):=by kernel_rfl
theorem cf3:true=Tryz.pinned.checked.prog.looks []:=by kernel_rfl
theorem cf4:false=Rows.gateRecoversRow.goesBy Tryz.pinned.checked.prog:=by kernel_rfl
theorem cf5:Tryz.prog.funcNamed "noonmark/noonmarklaw25.GateRecovers"=some 3:=by kernel_rfl
theorem cf6:([25,26].all fun u=>!Tryz.prog.wantsStandIn u)=true:=by kernel_rfl
theorem gateRecovers_holds:Rows.GateRecoversCardSaid:=
 Claim7.holds_tied_plain_at .later [] [.data,.pinned] true (true,"49e245e563a1bf08009bc4a0b3ddc2d0b9353319f700ac4693181d753d56a6a3") true gateRecovers_row (fun _ h=>by cases h) cf1 (fun _ h=>by cases h) gateRecovers_row_tie rfl ⟨rfl,rfl⟩ cf2 rfl
  (fun f fn hf hfn=>by
   obtain rfl:f=3:=Option.some.inj (cf5.symm.trans hf) |>.symm
   obtain rfl:fn=Tryz.f3:=(Option.some.inj (Tryz.func3.symm.trans hfn)).symm
   exact⟨cf3,fun j t ht=>by
    rw [Tryz.params3] at ht
    have hm:t∈[25,26]:=by simpa using Array.mem_of_getElem? ht
    exact (show Tryz.prog.wantsStandIn t=false by simpa using List.all_eq_true.1 cf6 t hm)⟩)
  cf4
end Go.Proofs.YtaaieblnikcndaaGreatDoor
