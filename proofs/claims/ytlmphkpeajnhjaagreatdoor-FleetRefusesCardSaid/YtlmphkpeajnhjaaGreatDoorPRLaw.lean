/-
  Proved: for every input, FleetRefuses returns true and leaves its arguments as they were; the card ties what the row lists to the program's text. Conditions: none beyond the row's own.
-/
import Derived.Test.YtlmphkpeajnhjaaGreatDoorPR12
import Derived.Test.YtlmphkpeajnhjaaGreatDoorRows
import Derived.Test.YtlmphkpeajnhjaaGreatDoorCards
import Derived.Test.YtlmphkpeajnhjaaGreatDoorTie
import Derived.LaidMore
import Derived.Lay
import Derived.SevenTiedAt
import Derived.Stop.Joined
set_option linter.unusedVariables false
set_option maxRecDepth 100000
set_option linter.unusedSimpArgs false
namespace Go.Proofs.YtlmphkpeajnhjaaGreatDoor
open Go Go.Proofs Go.ChangeShapes Go.WideShapes Go.ChangeAt Go.RowKit
abbrev Y_:List (String × DataW Unit):=[("unicode/utf8.acceptRanges",Rows.laid_unicode_utf8_acceptRanges),("unicode/utf8.first",Rows.laid_unicode_utf8_first)]
theorem akD:ownKnob Tryz.prog.godebug=none:=by kernel_rfl
theorem lo0:((List.range' 0 100).all (rowFine Tryz.prog))=true:=by kernel_rfl
theorem lo1:((List.range' 100 100).all (rowFine Tryz.prog))=true:=by kernel_rfl
theorem lo2:((List.range' 200 100).all (rowFine Tryz.prog))=true:=by kernel_rfl
theorem lo3:((List.range' 300 100).all (rowFine Tryz.prog))=true:=by kernel_rfl
theorem lo4:((List.range' 400 100).all (rowFine Tryz.prog))=true:=by kernel_rfl
theorem lo5:((List.range' 500 100).all (rowFine Tryz.prog))=true:=by kernel_rfl
theorem lo6:((List.range' 600 135).all (rowFine Tryz.prog))=true:=by kernel_rfl
theorem lo7:(Tryz.prog.globals.all (fun g=>decide (g.type<Tryz.prog.types.size))&&Tryz.prog.funcs.all (fun f=>f.params.all fun t=>decide (t<Tryz.prog.types.size)))=true:=by kernel_rfl
theorem lo8:List.range Tryz.prog.types.size=List.range' 0 100++(List.range' 100 100++(List.range' 200 100++(List.range' 300 100++(List.range' 400 100++(List.range' 500 100++List.range' 600 135))))):=by kernel_rfl
theorem aci:laidOutB Tryz.prog=true:=by
 unfold laidOutB
 rw[lo8,Bool.and_assoc,lo7,Bool.and_true,List.all_append,List.all_append,List.all_append,List.all_append,List.all_append,List.all_append,lo0,lo1,lo2,lo3,lo4,lo5,lo6]
 rfl
theorem jf0:(Rows.fleetRefusesRow.wf (OpenSpec.ofChange Rows.fleetRefusesSpec))=true:=by kernel_rfl
theorem jf1:(laidOutB Tryz.pinned.checked.prog)=true:=(congrArg laidOutB (by kernel_rfl:Tryz.pinned.checked.prog=Tryz.prog)).trans aci
theorem jf2:(mapsRowed Tryz.pinned.checked.prog)=true:=by kernel_rfl
theorem jf3:(Tryz.f4.params.all (Tryz.pinned.checked.prog.readableRec ·))=true:=by kernel_rfl
theorem jf4:(namedTie Tryz.pinned.checked.prog Rows.fleetRefusesRow.named Rows.fleetRefusesSpec.vars)=true:=by kernel_rfl
theorem jf5:((Rows.fleetRefusesRow.stops == []))=true:=by kernel_rfl
theorem jf6:((Tryz.pinned.checked.prog.stops == []))=true:=by kernel_rfl
theorem jf7:((Rows.fleetRefusesRow.knobs == []))=true:=by kernel_rfl
theorem jf8:((Tryz.pinned.checked.prog.stopKnobs == []))=true:=by kernel_rfl
theorem jf9:((Rows.fleetRefusesRow.inPlace == Tryz.pinned.checked.prog.inPlace 4))=true:=by kernel_rfl
theorem ak0:((Rows.fleetRefusesRow.unfollowed == Tryz.pinned.checked.prog.unfollowed 4))=true:=by kernel_rfl
theorem akZ:((Rows.fleetRefusesRow.recurses == Tryz.pinned.checked.prog.recurses 4))=true:=by kernel_rfl
theorem akY:((Rows.fleetRefusesRow.named == Tryz.pinned.checked.prog.varsNamed 4))=true:=by kernel_rfl
theorem akX:((Rows.fleetRefusesRow.maps == (Tryz.f4.params.toList++Rows.fleetRefusesSpec.plain.varTypes Tryz.pinned.checked.prog).any (Tryz.pinned.checked.prog.mapsRec ·)))=true:=by kernel_rfl
theorem akW:((Rows.fleetRefusesRow.ifaces == (Tryz.f4.params.toList++Rows.fleetRefusesSpec.plain.varTypes Tryz.pinned.checked.prog).any (Tryz.pinned.checked.prog.ifacesRec ·)))=true:=by kernel_rfl
theorem akV:((Rows.fleetRefusesRow.mapsOut == Tryz.pinned.checked.prog.mapsAmong Tryz.f4.resultTypes.toList))=true:=by kernel_rfl
theorem akU:((Rows.fleetRefusesRow.loops == (Tryz.f4.params.toList++Rows.fleetRefusesSpec.plain.varTypes Tryz.pinned.checked.prog).any (Tryz.pinned.checked.prog.loopsFrom ·)))=true:=by kernel_rfl
theorem akT:((Rows.fleetRefusesRow.wideKeys == (Tryz.f4.params.toList++Rows.fleetRefusesSpec.plain.varTypes Tryz.pinned.checked.prog++Tryz.f4.resultTypes.toList).any (Tryz.pinned.checked.prog.wideKeysFrom ·)))=true:=by kernel_rfl
theorem akS:(Rows.fleetRefusesSpec.vars.all (Tryz.pinned.checked.prog.varReadable ·))=true:=by kernel_rfl
theorem akR:(Tryz.f4.resultTypes.all (fun t=>Tryz.pinned.checked.prog.readableRec t && decide (t < Tryz.pinned.checked.prog.types.size)))=true:=by kernel_rfl
theorem akQ:((Rows.fleetRefusesRow.ifacesOut == Tryz.f4.resultTypes.toList.any (Tryz.pinned.checked.prog.ifacesRec ·)))=true:=by kernel_rfl
theorem akP:((Rows.fleetRefusesRow.loopsOut == Tryz.f4.resultTypes.toList.any (Tryz.pinned.checked.prog.loopsFrom ·)))=true:=by kernel_rfl
theorem akO:((Rows.fleetRefusesRow.plainKeys == Tryz.pinned.checked.prog.plainKeys))=true:=by kernel_rfl
theorem akN:(Rows.fleetRefusesRow.shortTexts.isNone)=true:=by kernel_rfl
theorem akM:(Tryz.pinned.checked.prog.stopsHeard)=true:=by kernel_rfl
theorem akL:(Tryz.pinned.checked.prog.mayEnter)=true:=by kernel_rfl
theorem akK:((Rows.fleetRefusesRow.lifted == Tryz.pinned.checked.prog.liftsFinal))=true:=by kernel_rfl
theorem akJ:((Tryz.pinned.checked.prog.make == some Rows.fleetRefusesRow.make))=true:=by kernel_rfl
theorem akI:((Rows.fleetRefusesRow.kinds == (if Rows.fleetRefusesRow.domain.isEmpty then [] else Tryz.f4.params.toList.map fun t=>match Tryz.pinned.checked.prog.underlying t with|some (.int k)=>some k|_=>none)))=true:=by kernel_rfl
theorem akH:((Rows.fleetRefusesRow.pinned == Rows.fleetRefusesRow.pinnedBy))=true:=by kernel_rfl
theorem akG:((Rows.fleetRefusesRow.veiled == (Tryz.f4.params.toList++Rows.fleetRefusesSpec.plain.varTypes Tryz.pinned.checked.prog++Tryz.f4.resultTypes.toList).any (Tryz.pinned.checked.prog.veiledRec ·)))=true:=by kernel_rfl
theorem akF:(Rows.fleetRefusesRow.veiledFits Tryz.pinned.checked.prog Tryz.f4.params.toList (Tryz.f4.params.toList++Rows.fleetRefusesSpec.plain.varTypes Tryz.pinned.checked.prog++Tryz.f4.resultTypes.toList))=true:=by kernel_rfl
theorem aat {P:Program}{f:FuncId}{fn:Func}{s:ChangeSpec}{c:OpenClaim}(h0:(c.wf (OpenSpec.ofChange s))=true)(h1:(laidOutB P)=true)(h2:(mapsRowed P)=true)(h3:(fn.params.all (P.readableRec ·))=true)(h4:(namedTie P c.named s.vars)=true)(h5:((c.stops == []))=true)(h6:((P.stops == []))=true)(h7:((c.knobs == []))=true)(h8:((P.stopKnobs == []))=true)(h9:((c.inPlace == P.inPlace f))=true)(h10:((c.unfollowed == P.unfollowed f))=true)(h11:((c.recurses == P.recurses f))=true)(h12:((c.named == P.varsNamed f))=true)(h13:((c.maps == (fn.params.toList++s.plain.varTypes P).any (P.mapsRec ·)))=true)(h14:((c.ifaces == (fn.params.toList++s.plain.varTypes P).any (P.ifacesRec ·)))=true)(h15:((c.mapsOut == P.mapsAmong fn.resultTypes.toList))=true)(h16:((c.loops == (fn.params.toList++s.plain.varTypes P).any (P.loopsFrom ·)))=true)(h17:((c.wideKeys == (fn.params.toList++s.plain.varTypes P++fn.resultTypes.toList).any (P.wideKeysFrom ·)))=true)(h18:(s.vars.all (P.varReadable ·))=true)(h19:(fn.resultTypes.all (fun t=>P.readableRec t && decide (t < P.types.size)))=true)(h20:((c.ifacesOut == fn.resultTypes.toList.any (P.ifacesRec ·)))=true)(h21:((c.loopsOut == fn.resultTypes.toList.any (P.loopsFrom ·)))=true)(h22:((c.plainKeys == P.plainKeys))=true)(h23:(c.shortTexts.isNone)=true)(h24:(P.stopsHeard)=true)(h25:(P.mayEnter)=true)(h26:((c.lifted == P.liftsFinal))=true)(h27:((P.make == some c.make))=true)(h28:((c.kinds == (if c.domain.isEmpty then [] else fn.params.toList.map fun t=>match P.underlying t with|some (.int k)=>some k|_=>none)))=true)(h29:((c.pinned == c.pinnedBy))=true)(h30:((c.veiled == (fn.params.toList++s.plain.varTypes P++fn.resultTypes.toList).any (P.veiledRec ·)))=true)(h31:(c.veiledFits P fn.params.toList (fn.params.toList++s.plain.varTypes P++fn.resultTypes.toList))=true):joinedFacts P f fn s c=true:=by
 unfold joinedFacts
 simp only [Bool.and_eq_true]
 exact⟨⟨⟨⟨⟨⟨⟨⟨⟨⟨⟨⟨⟨⟨⟨⟨⟨⟨⟨⟨⟨⟨⟨⟨⟨⟨⟨⟨⟨⟨⟨h0,h1⟩,h2⟩,h3⟩,h4⟩,h5⟩,h6⟩,h7⟩,h8⟩,h9⟩,h10⟩,h11⟩,h12⟩,h13⟩,h14⟩,h15⟩,h16⟩,h17⟩,h18⟩,h19⟩,h20⟩,h21⟩,h22⟩,h23⟩,h24⟩,h25⟩,h26⟩,h27⟩,h28⟩,h29⟩,h30⟩,h31⟩
theorem jf_:joinedFacts Tryz.pinned.checked.prog 4 Tryz.f4 Rows.fleetRefusesSpec Rows.fleetRefusesRow=true:=aat (P:=Tryz.pinned.checked.prog) (f:=4) (fn:=Tryz.f4) (s:=Rows.fleetRefusesSpec) (c:=Rows.fleetRefusesRow) jf0 jf1 jf2 jf3 jf4 jf5 jf6 jf7 jf8 jf9 ak0 akZ akY akX akW akV akU akT akS akR akQ akP akO akN akM akL akK akJ akI akH akG akF
theorem FP (os:Os)(started:os.Started)(H:Type)(enc:TypeId × Value→H) :
  ReturnsInHanded {} Tryz.checked os 4 .any (fun w args=>(Rows.fleetRefusesSpec.pre enc Tryz.prog Tryz.f4 Rows.fleetRefusesRow.domain false w args∧laidMetH Tryz.prog Y_ w)∧sizedMet enc Tryz.prog Tryz.f4 (OpenSpec.ofChange Rows.fleetRefusesSpec) false w args)
   (Rows.fleetRefusesSpec.post enc Tryz.prog Tryz.f4 false true false false):=by
 refine returnsInHanded_of_change_and (C:=Tryz.checked) (X:=fun w _=>laidMetH Tryz.prog Y_ w) (fun _ _ _ hh h=>h.of_heap hh) akD started (by kernel_rfl) Tryz.func4
  (ChangeSpec.witness_shaped (enc:=enc) (C:=Tryz.checked) (os:=os) (X:=fun w _=>laidMetH Tryz.prog Y_ w) false (World.laidAll Tryz.prog os Y_) #[.agg #[.int .i64 0,.int .i64 0,.int .i64 0,.int .i64 0,.int .i64 0,.int .i64 0,.int .i64 0,.int .i64 0,.int .i64 0,.int .i64 0,.int .i64 0,.int .i64 0,.int .i64 0,.int .i64 0,.int .i64 0],.slice none 0 0,.agg #[.int .i64 0,.int .i64 0,.int .i64 0,.int .i64 0,.int .i64 0,.int .i64 0,.int .i64 0,.int .i64 0,.string ⟨#[]⟩,.slice none 0 0,.slice none 0 0]] 8 (World.laidAll_os _ _ _)
   (World.shaped_of_ZipB (by kernel_rfl) (by kernel_rfl)) (by kernel_rfl) (by kernel_rfl) (by kernel_rfl)
   (by rw [MakeChecks.laidMetH_plain _ _ _ (by kernel_rfl)]; exact laidMet_laidAll _ (by kernel_rfl) (by kernel_rfl))) ?_
 intro W base args ds gs before ajn hW alC _ _ _
 have afc:∀(j:Nat) t v,Tryz.f4.params[j]?=some t→args[j]?=some v→Value.okWide Tryz.prog W .any base t v:=ajn
 have hW':=hW
 obtain⟨p,q,hA0,hV,rfl,hfz,hnd⟩:=hW
 have ajq:DataW.TrodAll enc Tryz.prog W 0 (fun _=>true) true Tryz.f4.params.toList args.toList ds p:=hA0
 rw [Tryz.params4] at ajq afc
 obtain⟨v0,r0,d0,ds0,p0,e0,rfl,g0,hA1⟩:=Hf ajq
 obtain⟨v1,r1,d1,ds1,p1,rfl,rfl,g1,hA2⟩:=Hf hA1
 obtain⟨v2,r2,d2,ds2,p2,rfl,rfl,g2,hA3⟩:=Hf hA2
 obtain rfl:=adg hA3
 obtain rfl:args=#[v0,v1,v2]:=by cases args; simp_all
 obtain⟨cs0,rfl⟩:=HH Tryz.underlying27 (afc 0 27 v0 rfl rfl)
 obtain⟨x0,ex0⟩:=abB g0
 obtain rfl:cs0=⟨_⟩:=by cases cs0; exact congrArg Array.mk ex0
 obtain⟨a1,l1,c1,rfl⟩:=okWide_slice Tryz.underlying28 (afc 1 28 v1 rfl rfl)
 obtain⟨aa1,cc1,xs1,ec1,hl1,hr1,hq1⟩:=XN g1
 simp only [Value.cells,List.cons.injEq,Value.slice.injEq,and_true] at ec1
 obtain⟨rfl,rfl,rfl⟩:=ec1
 obtain⟨cs2,rfl⟩:=HH Tryz.underlying65 (afc 2 65 v2 rfl rfl)
 obtain⟨x2,ex2,hx2⟩:=q05 g2
 obtain rfl:cs2=⟨_⟩:=by cases cs2; exact congrArg Array.mk ex2
 refine ach aci hW' rfl (by kernel_rfl) Tryz.underlying4 ?_ (by kernel_rfl) ?_
 ·obtain⟨rfl,rfl⟩:=trodVars_none hV
  have ak1:ds2=[]:=by cases ds2 with|nil=>rfl|cons _ _=>exact hA3.elim
  subst ak1
  rfl
 ·exact q4c hl1 hr1 hq1 hx2
theorem He:Rows.FleetRefusesSaid:=
 OpenClaim.holds_of_wide 4 Tryz.f4 rfl rfl rfl rfl rfl rfl rfl ⟨rfl,rfl,rfl,rfl,rfl⟩ rfl rfl rfl rfl rfl (by kernel_rfl) Tryz.func4 jf_
  (of_decide_eq_true (by kernel_rfl)) (by unfold Func.isWrapper; first|(rw [if_pos (by decide +kernel)]; kernel_rfl)|(rw [if_neg (by decide +kernel)]; exact⟨rfl,rfl⟩))
  (fun os started H enc _=>FP os started H enc)
theorem cf1:Rows.fleetRefusesRow.wfByText (OpenSpec.ofChange Rows.fleetRefusesSpec)=true:=by kernel_rfl
theorem cf2:Tryz.pinned.checked.prog.mainIs=some (true,"1bc2560f06dd48e9834fc5944821cc1dc7652387b58d116caf99d772eb66416e".toList):=by kernel_rfl
theorem cf3:true=Tryz.pinned.checked.prog.looks []:=by kernel_rfl
theorem goesNo {P:Program}(h:P.funcs.toList.all (fun f=>!f.goes)=true)(s:Start)(n:String):P.goesAt s n=false:=by
  have h0:∀g:FuncId,(P.funcs[g]?).any Func.goes=false:=by
    intro g
    cases e:P.funcs[g]? with
    | none=>rfl
    | some f=>
      have hm:f∈P.funcs.toList:=by rw [← Array.getElem?_toList] at e; exact List.mem_of_getElem? e
      have:=List.all_eq_true.1 h f hm
      simpa using this
  have h1:∀f,P.goes f=false:=by
    intro f
    unfold Program.goes
    have a:((P.closure f).any fun g=>(P.funcs[g]?).any Func.goes)=false:=by
      rw [List.any_eq_false]; intro g _; rw [h0 g]; simp
    have b:P.funcs.any Func.goes=false:=by
      rw [Array.any_eq_false]; intro i hi
      have:=h0 i; rw [Array.getElem?_eq_getElem hi] at this; simpa using this
    rw [a,b]; simp
  have h2:∀o:Option FuncId,o.any P.goes=false:=fun o=>by cases o <;> simp [h1]
  unfold Program.goesAt Program.goesFrom
  rw [h2]
  cases s <;> simp [h1]
theorem cf4:false=Rows.fleetRefusesRow.goesBy Tryz.pinned.checked.prog:=(goesNo (P:=Tryz.pinned.checked.prog) (by kernel_rfl) _ _).symm
theorem cf5:Tryz.prog.funcNamed "noonmark/noonmarklaw27.FleetRefuses"=some 4:=by kernel_rfl
theorem cf6:([27,28,65].all fun u=>!Tryz.prog.wantsStandIn u)=true:=by kernel_rfl
theorem X9:Rows.FleetRefusesCardSaid:=
 Claim7.holds_tied_plain_at .later [] [.data,.pinned] true (true,"1bc2560f06dd48e9834fc5944821cc1dc7652387b58d116caf99d772eb66416e") true He (fun _ h=>by cases h) cf1 (fun _ h=>by cases h) fleetRefuses_row_tie rfl ⟨rfl,rfl⟩ cf2 rfl
  (fun f fn hf hfn=>by
   obtain rfl:f=4:=Option.some.inj (cf5.symm.trans hf) |>.symm
   obtain rfl:fn=Tryz.f4:=(Option.some.inj (Tryz.func4.symm.trans hfn)).symm
   exact⟨cf3,fun j t ht=>by
    rw [Tryz.params4] at ht
    have hm:t∈[27,28,65]:=by simpa using Array.mem_of_getElem? ht
    exact (show Tryz.prog.wantsStandIn t=false by simpa using List.all_eq_true.1 cf6 t hm)⟩)
  cf4
end Go.Proofs.YtlmphkpeajnhjaaGreatDoor
