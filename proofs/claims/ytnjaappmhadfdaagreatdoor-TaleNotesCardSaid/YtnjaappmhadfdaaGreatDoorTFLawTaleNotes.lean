/-
  Proved: for every input, TaleNotes returns true and leaves its arguments as they were; the card ties what the row lists to the program's text. Conditions: none beyond the row's own.
-/
import Derived.Test.YtnjaappmhadfdaaGreatDoorTF10
import Derived.Test.YtnjaappmhadfdaaGreatDoorRows
import Derived.Test.YtnjaappmhadfdaaGreatDoorCards
import Derived.Test.YtnjaappmhadfdaaGreatDoorTFTie
import Derived.LaidMore
import Derived.Lay
import Derived.Handed
import Derived.SevenTiedAt
import Derived.Stop.Joined
set_option linter.unusedVariables false
set_option linter.unusedSimpArgs false
namespace Go.Proofs.YtnjaappmhadfdaaGreatDoor
open Go Go.Proofs Go.ChangeShapes Go.WideShapes Go.ChangeAt Go.RowKit
abbrev laid_:List (String × DataW Unit):=[("internal/strconv.uint64pow10",Rows.laid_internal_strconv_uint64pow10),("math/bits.deBruijn32tab",Rows.laid_math_bits_deBruijn32tab),("math/bits.deBruijn64tab",Rows.laid_math_bits_deBruijn64tab),("strconv.ErrSyntax",Rows.laid_strconv_ErrSyntax),("strconv.ErrRange",Rows.laid_strconv_ErrRange),("unicode/utf8.first",Rows.laid_unicode_utf8_first),("unicode/utf8.acceptRanges",Rows.laid_unicode_utf8_acceptRanges),("noonmark/tale.reasons",Rows.laid_noonmark_tale_reasons)]
theorem own_:ownKnob Tryz.prog.godebug=none:=by kernel_rfl
theorem laidOa_:((List.range' 0 100).all (rowFine Tryz.prog))=true:=by kernel_rfl
theorem laidOb_:((List.range' 100 100).all (rowFine Tryz.prog))=true:=by kernel_rfl
theorem laidOc_:((List.range' 200 100).all (rowFine Tryz.prog))=true:=by kernel_rfl
theorem laidOd_:((List.range' 300 100).all (rowFine Tryz.prog))=true:=by kernel_rfl
theorem laidOe_:((List.range' 400 100).all (rowFine Tryz.prog))=true:=by kernel_rfl
theorem laidOf_:((List.range' 500 100).all (rowFine Tryz.prog))=true:=by kernel_rfl
theorem laidOg_:((List.range' 600 100).all (rowFine Tryz.prog))=true:=by kernel_rfl
theorem laidOx_:(Tryz.prog.globals.all (fun g=>decide (g.type<Tryz.prog.types.size))&&Tryz.prog.funcs.all (fun f=>f.params.all fun t=>decide (t<Tryz.prog.types.size)))=true:=by kernel_rfl
theorem laidOy_:List.range Tryz.prog.types.size=List.range' 0 100++(List.range' 100 100++(List.range' 200 100++(List.range' 300 100++(List.range' 400 100++(List.range' 500 100++(List.range' 600 100)))))):=by kernel_rfl
theorem laidOut_:laidOutB Tryz.prog=true:=by
 unfold laidOutB
 rw[laidOy_,Bool.and_assoc,laidOx_,Bool.and_true,List.all_append,List.all_append,List.all_append,List.all_append,List.all_append,List.all_append,laidOa_,laidOb_,laidOc_,laidOd_,laidOe_,laidOf_,laidOg_]
 rfl
theorem lifts_sh {H:Type}{enc:TypeId × Value→H}{a:Assume}{C:Checked}{os:Os}{f:FuncId}{fn:Func}{s:ChangeSpec}{conds:List PathCond}{apart fresh handsOn again:Bool}{X:World→Array Value→Prop}
  (hX:∀(w w':World) (args:Array Value),w.heap=w'.heap→X w args→X w' args)
  (own:ownKnob C.prog.godebug=none) (started:os.Started) (noInit:C.prog.inits.idxOf? f=none) (hfn:C.prog.funcs[f]?=some fn)
  (witness:∃(w:World) (tape:Tape) (i:Input),w.os=os∧(w.forCall tape i).Shaped C.prog∧i.vars=[]∧Input.okWide C.prog (w.forCall tape i) .any w.heap.size f i∧
   ((s.pre enc C.prog fn conds apart (w.forCall tape i).memory i.args∧X (w.forCall tape i).memory i.args)∧sizedMet enc C.prog fn (OpenSpec.ofChange s) apart (w.forCall tape i).memory i.args)∧a.holds C.prog (lone (Frame.enter C.prog f i.args .normal) [] (w.forCall tape i)))
  (contract:∀(W:World) (base:Nat) (args:Array Value) (ds gs:List (DataW H)) (before:List MemPlace),
   (∀(j:Nat) t v,fn.params[j]?=some t→args[j]?=some v→Value.okWide C.prog W .any base t v)→
   DataW.Whole enc C.prog fn.params.toList s.vars apart W args.toList ds gs before→X W args→W.ShapedOpen C.prog→
   a.holds C.prog (lone (Frame.enter C.prog f args .normal) [] W)→
   Calls C.prog f args W fun e W'=>∃v,e=.returned v∧s.post enc C.prog fn apart fresh handsOn again W args v W') :
  ReturnsInHanded a C os f .any (fun w args=>(s.pre enc C.prog fn conds apart w args∧X w args)∧sizedMet enc C.prog fn (OpenSpec.ofChange s) apart w args) (s.post enc C.prog fn apart fresh handsOn again):=by
 refine returnsInHanded_of_calls own started noInit witness fun w tape i _ hsh _ hok hpre hholds=>?_
 obtain⟨_,_,_,fn',hfn',_,_,_,_,hval⟩:=hok
 obtain rfl:fn'=fn:=Option.some.inj (hfn'.symm.trans hfn)
 obtain⟨⟨⟨ds,gs,before,hw,_⟩,hx⟩,_⟩:=hpre
 refine (contract (w.forCall tape i) w.heap.size i.args ds gs before hval (DataW.Whole.of_heap (w':=w.forCall tape i) (by rfl) hw) (hX _ _ _ (by rfl) hx) hsh hholds).mono fun e W' ⟨v,he,hp⟩=>?_
 subst he
 exact ChangeSpec.post_blind hp
theorem gl1:Tryz.prog.globalNamed "internal/strconv.uint64pow10"=some 4∧(Tryz.prog.globals[4]?).map (·.type)=some 493:=⟨by kernel_rfl,by kernel_rfl⟩
theorem gl2:Tryz.prog.globalNamed "noonmark/tale.reasons"=some 0∧(Tryz.prog.globals[0]?).map (·.type)=some 144:=⟨by kernel_rfl,by kernel_rfl⟩
theorem gl3:((begin Tryz.prog (fun _ _=>0) default).world.heap[3]?).bind Obj.row?=some (#[.int .i64 0],3):=by kernel_rfl
theorem gl4a:Go.Lib.pow10Tab=[1,10,100,1000,10000,100000,1000000,10000000,100000000,1000000000,10000000000,100000000000,1000000000000,10000000000000,100000000000000,1000000000000000,10000000000000000,100000000000000000,1000000000000000000,10000000000000000000]:=by decide +kernel
theorem gl4:(Rows.laid_internal_strconv_uint64pow10:DataW Unit)=.agg (Go.Lib.pow10Tab.map fun z=>.lit (.int .u64 z)):=by
 rw [gl4a]; kernel_rfl
theorem gl5:(Rows.laid_noonmark_tale_reasons:DataW Unit)=.agg (reasonL.map fun s=>.lit (.string s.data.toList)):=by kernel_rfl
set_option maxRecDepth 100000 in
theorem gl_of {W:World}(hL:laidMetH Tryz.prog laid_ W)(hsh:W.ShapedOpen Tryz.prog):Gl (old W.heap):=by
 rw [MakeChecks.laidMetH_plain _ _ _ (by kernel_rfl)] at hL
 obtain⟨ps,hv,_⟩:=hL
 obtain⟨g0,t0,c0,n0,p0,q0,a0,b0,v0,d0,hv,_⟩:=hv
 obtain⟨_,_,_,_,_,_,_,_,_,_,hv,_⟩:=hv
 obtain⟨_,_,_,_,_,_,_,_,_,_,hv,_⟩:=hv
 obtain⟨_,_,_,_,_,_,_,_,_,_,hv,_⟩:=hv
 obtain⟨_,_,_,_,_,_,_,_,_,_,hv,_⟩:=hv
 obtain⟨_,_,_,_,_,_,_,_,_,_,hv,_⟩:=hv
 obtain⟨_,_,_,_,_,_,_,_,_,_,hv,_⟩:=hv
 obtain⟨g1,t1,c1,n1,p1,q1,a1,b1,v1,d1,_,_⟩:=hv
 obtain rfl:g0=4:=Option.some.inj (a0.symm.trans gl1.1)
 obtain rfl:t0=493:=Option.some.inj (b0.symm.trans gl1.2)
 obtain rfl:g1=0:=Option.some.inj (a1.symm.trans gl2.1)
 obtain rfl:t1=144:=Option.some.inj (b1.symm.trans gl2.2)
 rw [gl4] at d0
 rw [gl5] at d1
 have e0:=arr_ints Tryz.underlying493 Tryz.underlying153 (by kernel_rfl) (by kernel_rfl) (by kernel_rfl) d0
 have e1:=arr_strs Tryz.underlying144 Tryz.underlying9 (by kernel_rfl) (by kernel_rfl) (by kernel_rfl) d1
 refine⟨?_,?_,?_⟩
 ·rw [← e0]; exact varIn_of a0 v0
 ·obtain⟨cs,hh,hs,hr⟩:=hsh.1 3 _ 3 (of_decide_eq_true (by kernel_rfl)) gl3
  obtain⟨ts,hts,_,hall⟩:=hr (by kernel_rfl)
  rw [show Tryz.prog.cellTypes Tryz.prog.depth 3=some [3] by kernel_rfl] at hts
  cases hts
  have h1:cs.size=1:=hs
  obtain⟨u,hu',hok⟩:=hall 0 cs[0] (by simp [h1])
  obtain rfl:3=u:=by simpa using hu'
  unfold Cell.ok at hok
  rw [Tryz.underlying3] at hok
  obtain⟨m,hm⟩:∃m,cs[0]=.int .i64 m:=by
   cases hv:cs[0] <;> rw [hv] at hok <;> simp at hok
   case int k' n=>exact⟨n,by rw [hok.1]⟩
  refine⟨m,fun H' F' h'=>?_⟩
  have hlt:=(Array.getElem?_eq_some_iff.1 hh).1
  have e:cs=#[.int .i64 m]:=by
   apply Array.ext
   ·exact h1
   ·intro i hi _
    obtain rfl:i=0:=by omega
    exact hm
  subst e
  exact⟨_,_,by rw [h'.old_grow 0 rfl _ hlt]; exact hh⟩
 ·rw [← e1]; exact varIn_of a1 v1
set_option maxRecDepth 100000 in
theorem jf0:(Rows.taleNotesRow.wf (OpenSpec.ofChange Rows.taleNotesSpec))=true:=by kernel_rfl
set_option maxRecDepth 100000 in
theorem jf1:(laidOutB Tryz.pinned.checked.prog)=true:=(congrArg laidOutB (by kernel_rfl:Tryz.pinned.checked.prog=Tryz.prog)).trans laidOut_
set_option maxRecDepth 100000 in
theorem jf2:(mapsRowed Tryz.pinned.checked.prog)=true:=by kernel_rfl
set_option maxRecDepth 100000 in
theorem jf3:(Tryz.f4.params.all (Tryz.pinned.checked.prog.readableRec ·))=true:=by kernel_rfl
set_option maxRecDepth 100000 in
theorem jf4:(namedTie Tryz.pinned.checked.prog Rows.taleNotesRow.named Rows.taleNotesSpec.vars)=true:=by kernel_rfl
set_option maxRecDepth 100000 in
theorem jf5:((Rows.taleNotesRow.stops == []))=true:=by kernel_rfl
set_option maxRecDepth 100000 in
theorem jf6:((Tryz.pinned.checked.prog.stops == []))=true:=by kernel_rfl
set_option maxRecDepth 100000 in
theorem jf7:((Rows.taleNotesRow.knobs == []))=true:=by kernel_rfl
set_option maxRecDepth 100000 in
theorem jf8:((Tryz.pinned.checked.prog.stopKnobs == []))=true:=by kernel_rfl
set_option maxRecDepth 100000 in
theorem jf9:((Rows.taleNotesRow.inPlace == Tryz.pinned.checked.prog.inPlace 4))=true:=by kernel_rfl
set_option maxRecDepth 100000 in
theorem jf10:((Rows.taleNotesRow.unfollowed == Tryz.pinned.checked.prog.unfollowed 4))=true:=by kernel_rfl
set_option maxRecDepth 100000 in
theorem jf11:((Rows.taleNotesRow.recurses == Tryz.pinned.checked.prog.recurses 4))=true:=by kernel_rfl
set_option maxRecDepth 100000 in
theorem jf12:((Rows.taleNotesRow.named == Tryz.pinned.checked.prog.varsNamed 4))=true:=by kernel_rfl
set_option maxRecDepth 100000 in
theorem jf13:((Rows.taleNotesRow.maps == (Tryz.f4.params.toList++Rows.taleNotesSpec.plain.varTypes Tryz.pinned.checked.prog).any (Tryz.pinned.checked.prog.mapsRec ·)))=true:=by kernel_rfl
set_option maxRecDepth 100000 in
theorem jf14:((Rows.taleNotesRow.ifaces == (Tryz.f4.params.toList++Rows.taleNotesSpec.plain.varTypes Tryz.pinned.checked.prog).any (Tryz.pinned.checked.prog.ifacesRec ·)))=true:=by kernel_rfl
set_option maxRecDepth 100000 in
theorem jf15:((Rows.taleNotesRow.mapsOut == Tryz.pinned.checked.prog.mapsAmong Tryz.f4.resultTypes.toList))=true:=by kernel_rfl
set_option maxRecDepth 100000 in
theorem jf16:((Rows.taleNotesRow.loops == (Tryz.f4.params.toList++Rows.taleNotesSpec.plain.varTypes Tryz.pinned.checked.prog).any (Tryz.pinned.checked.prog.loopsFrom ·)))=true:=by kernel_rfl
set_option maxRecDepth 100000 in
theorem jf17:((Rows.taleNotesRow.wideKeys == (Tryz.f4.params.toList++Rows.taleNotesSpec.plain.varTypes Tryz.pinned.checked.prog++Tryz.f4.resultTypes.toList).any (Tryz.pinned.checked.prog.wideKeysFrom ·)))=true:=by kernel_rfl
set_option maxRecDepth 100000 in
theorem jf18:(Rows.taleNotesSpec.vars.all (Tryz.pinned.checked.prog.varReadable ·))=true:=by kernel_rfl
set_option maxRecDepth 100000 in
theorem jf19:(Tryz.f4.resultTypes.all (fun t=>Tryz.pinned.checked.prog.readableRec t && decide (t < Tryz.pinned.checked.prog.types.size)))=true:=by kernel_rfl
set_option maxRecDepth 100000 in
theorem jf20:((Rows.taleNotesRow.ifacesOut == Tryz.f4.resultTypes.toList.any (Tryz.pinned.checked.prog.ifacesRec ·)))=true:=by kernel_rfl
set_option maxRecDepth 100000 in
theorem jf21:((Rows.taleNotesRow.loopsOut == Tryz.f4.resultTypes.toList.any (Tryz.pinned.checked.prog.loopsFrom ·)))=true:=by kernel_rfl
set_option maxRecDepth 100000 in
theorem jf22:((Rows.taleNotesRow.plainKeys == Tryz.pinned.checked.prog.plainKeys))=true:=by kernel_rfl
set_option maxRecDepth 100000 in
theorem jf23:(Rows.taleNotesRow.shortTexts.isNone)=true:=by kernel_rfl
set_option maxRecDepth 100000 in
theorem jf24:(Tryz.pinned.checked.prog.stopsHeard)=true:=by kernel_rfl
set_option maxRecDepth 100000 in
theorem jf25:(Tryz.pinned.checked.prog.mayEnter)=true:=by kernel_rfl
set_option maxRecDepth 100000 in
theorem jf26:((Rows.taleNotesRow.lifted == Tryz.pinned.checked.prog.liftsFinal))=true:=by kernel_rfl
set_option maxRecDepth 100000 in
theorem jf27:((Tryz.pinned.checked.prog.make == some Rows.taleNotesRow.make))=true:=by kernel_rfl
set_option maxRecDepth 100000 in
theorem jf28:((Rows.taleNotesRow.kinds == (if Rows.taleNotesRow.domain.isEmpty then [] else Tryz.f4.params.toList.map fun t=>match Tryz.pinned.checked.prog.underlying t with|some (.int k)=>some k|_=>none)))=true:=by kernel_rfl
set_option maxRecDepth 100000 in
theorem jf29:((Rows.taleNotesRow.pinned == Rows.taleNotesRow.pinnedBy))=true:=by kernel_rfl
set_option maxRecDepth 100000 in
theorem jf30:((Rows.taleNotesRow.veiled == (Tryz.f4.params.toList++Rows.taleNotesSpec.plain.varTypes Tryz.pinned.checked.prog++Tryz.f4.resultTypes.toList).any (Tryz.pinned.checked.prog.veiledRec ·)))=true:=by kernel_rfl
set_option maxRecDepth 100000 in
theorem jf31:(Rows.taleNotesRow.veiledFits Tryz.pinned.checked.prog Tryz.f4.params.toList (Tryz.f4.params.toList++Rows.taleNotesSpec.plain.varTypes Tryz.pinned.checked.prog++Tryz.f4.resultTypes.toList))=true:=by kernel_rfl
theorem joined_of {P:Program}{f:FuncId}{fn:Func}{s:ChangeSpec}{c:OpenClaim}(h0:(c.wf (OpenSpec.ofChange s))=true)(h1:(laidOutB P)=true)(h2:(mapsRowed P)=true)(h3:(fn.params.all (P.readableRec ·))=true)(h4:(namedTie P c.named s.vars)=true)(h5:((c.stops == []))=true)(h6:((P.stops == []))=true)(h7:((c.knobs == []))=true)(h8:((P.stopKnobs == []))=true)(h9:((c.inPlace == P.inPlace f))=true)(h10:((c.unfollowed == P.unfollowed f))=true)(h11:((c.recurses == P.recurses f))=true)(h12:((c.named == P.varsNamed f))=true)(h13:((c.maps == (fn.params.toList++s.plain.varTypes P).any (P.mapsRec ·)))=true)(h14:((c.ifaces == (fn.params.toList++s.plain.varTypes P).any (P.ifacesRec ·)))=true)(h15:((c.mapsOut == P.mapsAmong fn.resultTypes.toList))=true)(h16:((c.loops == (fn.params.toList++s.plain.varTypes P).any (P.loopsFrom ·)))=true)(h17:((c.wideKeys == (fn.params.toList++s.plain.varTypes P++fn.resultTypes.toList).any (P.wideKeysFrom ·)))=true)(h18:(s.vars.all (P.varReadable ·))=true)(h19:(fn.resultTypes.all (fun t=>P.readableRec t && decide (t < P.types.size)))=true)(h20:((c.ifacesOut == fn.resultTypes.toList.any (P.ifacesRec ·)))=true)(h21:((c.loopsOut == fn.resultTypes.toList.any (P.loopsFrom ·)))=true)(h22:((c.plainKeys == P.plainKeys))=true)(h23:(c.shortTexts.isNone)=true)(h24:(P.stopsHeard)=true)(h25:(P.mayEnter)=true)(h26:((c.lifted == P.liftsFinal))=true)(h27:((P.make == some c.make))=true)(h28:((c.kinds == (if c.domain.isEmpty then [] else fn.params.toList.map fun t=>match P.underlying t with|some (.int k)=>some k|_=>none)))=true)(h29:((c.pinned == c.pinnedBy))=true)(h30:((c.veiled == (fn.params.toList++s.plain.varTypes P++fn.resultTypes.toList).any (P.veiledRec ·)))=true)(h31:(c.veiledFits P fn.params.toList (fn.params.toList++s.plain.varTypes P++fn.resultTypes.toList))=true):joinedFacts P f fn s c=true:=by
 unfold joinedFacts
 simp only [Bool.and_eq_true]
 exact⟨⟨⟨⟨⟨⟨⟨⟨⟨⟨⟨⟨⟨⟨⟨⟨⟨⟨⟨⟨⟨⟨⟨⟨⟨⟨⟨⟨⟨⟨⟨h0,h1⟩,h2⟩,h3⟩,h4⟩,h5⟩,h6⟩,h7⟩,h8⟩,h9⟩,h10⟩,h11⟩,h12⟩,h13⟩,h14⟩,h15⟩,h16⟩,h17⟩,h18⟩,h19⟩,h20⟩,h21⟩,h22⟩,h23⟩,h24⟩,h25⟩,h26⟩,h27⟩,h28⟩,h29⟩,h30⟩,h31⟩
theorem jf_:joinedFacts Tryz.pinned.checked.prog 4 Tryz.f4 Rows.taleNotesSpec Rows.taleNotesRow=true:=joined_of (P:=Tryz.pinned.checked.prog) (f:=4) (fn:=Tryz.f4) (s:=Rows.taleNotesSpec) (c:=Rows.taleNotesRow) jf0 jf1 jf2 jf3 jf4 jf5 jf6 jf7 jf8 jf9 jf10 jf11 jf12 jf13 jf14 jf15 jf16 jf17 jf18 jf19 jf20 jf21 jf22 jf23 jf24 jf25 jf26 jf27 jf28 jf29 jf30 jf31
set_option maxRecDepth 100000 in
theorem taleNotes_lifted (os:Os)(started:os.Started)(H:Type)(enc:TypeId × Value→H) :
  ReturnsInHanded {} Tryz.checked os 4 .any (fun w args=>(Rows.taleNotesSpec.pre enc Tryz.prog Tryz.f4 Rows.taleNotesRow.domain false w args∧laidMetH Tryz.prog laid_ w)∧sizedMet enc Tryz.prog Tryz.f4 (OpenSpec.ofChange Rows.taleNotesSpec) false w args)
   (Rows.taleNotesSpec.post enc Tryz.prog Tryz.f4 false true false false):=by
 refine lifts_sh (C:=Tryz.checked) (X:=fun w _=>laidMetH Tryz.prog laid_ w) (fun _ _ _ hh h=>h.of_heap hh) own_ started (by kernel_rfl) Tryz.func4
  (ChangeSpec.witness_shaped (enc:=enc) (C:=Tryz.checked) (os:=os) (X:=fun w _=>laidMetH Tryz.prog laid_ w) false (World.laidAll Tryz.prog os laid_) #[.slice none 0 0,.string ⟨#[]⟩,.int .i64 0] 8 (World.laidAll_os _ _ _)
   (World.shaped_of_ZipB (by kernel_rfl) (by kernel_rfl)) (by kernel_rfl) (by kernel_rfl) (by kernel_rfl)
   (by rw [MakeChecks.laidMetH_plain _ _ _ (by kernel_rfl)]; exact laidMet_laidAll _ (by kernel_rfl) (by kernel_rfl))) ?_
 intro W base args ds gs before hval0 hW hL hsh _
 have hval:∀(j:Nat) t v,Tryz.f4.params[j]?=some t→args[j]?=some v→Value.okWide Tryz.prog W .any base t v:=hval0
 have hW':=hW
 obtain⟨p,q,hA0,hV,rfl,hfz,hnd⟩:=hW
 have hA00:DataW.TrodAll enc Tryz.prog W 0 (fun _=>true) true Tryz.f4.params.toList args.toList ds p:=hA0
 rw [Tryz.params4] at hA00 hval
 obtain⟨v0,r0,d0,ds0,p0,e0,rfl,g0,hA1⟩:=args_cons hA00
 obtain⟨v1,r1,d1,ds1,p1,rfl,rfl,g1,hA2⟩:=args_cons hA1
 obtain⟨v2,r2,d2,ds2,p2,rfl,rfl,g2,hA3⟩:=args_cons hA2
 obtain rfl:=args_nil hA3
 obtain rfl:args=#[v0,v1,v2]:=by cases args; simp_all
 obtain⟨a0,l0,c0,rfl⟩:=okWide_slice Tryz.underlying22 (hval 0 22 v0 rfl rfl)
 obtain⟨aa0,cc0,xs0,ec0,hl0,hr0,hq0⟩:=reads_tents g0
 simp only [Value.cells,List.cons.injEq,Value.slice.injEq,and_true] at ec0
 obtain⟨rfl,rfl,rfl⟩:=ec0
 obtain⟨s1,rfl⟩:=okWide_string Tryz.underlying9 (hval 1 9 v1 rfl rfl)
 obtain⟨n2,rfl⟩:=okWide_int Tryz.underlying3 (hval 2 3 v2 rfl rfl)
 obtain⟨m2,em2,b2,c2⟩:=reads_int Tryz.underlying3 g2
 simp only [Value.cells,List.cons.injEq,Value.int.injEq,true_and,and_true] at em2
 subst em2
 refine law_post laidOut_ hW' rfl (by kernel_rfl) Tryz.underlying4 ?_ (by kernel_rfl) ?_
 ·obtain⟨rfl,rfl⟩:=trodVars_none hV
  have hnil:ds2=[]:=by cases ds2 with|nil=>rfl|cons _ _=>exact hA3.elim
  subst hnil
  rfl
 ·exact TaleNotes_true (gl_of hL hsh) hl0 hr0 hq0
theorem taleNotes_row:Rows.TaleNotesSaid:=
 OpenClaim.holds_of_wide 4 Tryz.f4 rfl rfl rfl rfl rfl rfl rfl ⟨rfl,rfl,rfl,rfl,rfl⟩ rfl rfl rfl rfl rfl (by kernel_rfl) Tryz.func4 jf_
  (of_decide_eq_true (by kernel_rfl)) (by unfold Func.isWrapper; first|(rw [if_pos (by decide +kernel)]; kernel_rfl)|(rw [if_neg (by decide +kernel)]; exact⟨rfl,rfl⟩))
  (fun os started H enc _=>taleNotes_lifted os started H enc)
theorem cf1:Rows.taleNotesRow.wfByText (OpenSpec.ofChange Rows.taleNotesSpec)=true:=by kernel_rfl
theorem cf2:Tryz.pinned.checked.prog.mainIs=some (true,"7ff70723c1fe0d79776ab7fe543d57177d484b97e4186c28c45299591aaa7095".toList):=by kernel_rfl
theorem cf3:true=Tryz.pinned.checked.prog.looks []:=by kernel_rfl
theorem goesNo {P:Program}(h:P.funcs.toList.all (fun f=>!f.goes)=true)(s:Start)(n:String):P.goesAt s n=false:=by
 have h0:∀g:FuncId,(P.funcs[g]?).any Func.goes=false:=by
  intro g
  cases e:P.funcs[g]? with
  | none=>rfl
  | some f=>
   have hm:f∈P.funcs.toList:=by rw [← Array.getElem?_toList] at e; exact List.mem_of_getElem? e
   have:=List.all_eq_true.1 h f hm
   simpa using this
 have h1:∀f,P.goes f=false:=by
  intro f
  unfold Program.goes
  have a:((P.closure f).any fun g=>(P.funcs[g]?).any Func.goes)=false:=by
   rw [List.any_eq_false]; intro g _; rw [h0 g]; simp
  have b:P.funcs.any Func.goes=false:=by
   rw [Array.any_eq_false]; intro i hi
   have:=h0 i; rw [Array.getElem?_eq_getElem hi] at this; simpa using this
  rw [a,b]; simp
 have h2:∀o:Option FuncId,o.any P.goes=false:=fun o=>by cases o <;> simp [h1]
 unfold Program.goesAt Program.goesFrom
 rw [h2]
 cases s <;> simp [h1]
theorem cf4:false=Rows.taleNotesRow.goesBy Tryz.pinned.checked.prog:=(goesNo (by kernel_rfl) _ _).symm
theorem cf5:Tryz.prog.funcNamed "noonmark/noonmarklaw29.TaleNotes"=some 4:=by kernel_rfl
theorem cf6:([22,9,3].all fun u=>!Tryz.prog.wantsStandIn u)=true:=by kernel_rfl
theorem taleNotes_holds:Rows.TaleNotesCardSaid:=
 Claim7.holds_tied_plain_at .later [] [.data,.data,.data,.sentinel,.sentinel,.pinned,.data,.data] true (true,"7ff70723c1fe0d79776ab7fe543d57177d484b97e4186c28c45299591aaa7095") true taleNotes_row (fun _ h=>by cases h) cf1 (fun _ h=>by cases h) taleNotes_row_tie rfl ⟨rfl,rfl⟩ cf2 rfl
  (fun f fn hf hfn=>by
   obtain rfl:f=4:=Option.some.inj (cf5.symm.trans hf) |>.symm
   obtain rfl:fn=Tryz.f4:=(Option.some.inj (Tryz.func4.symm.trans hfn)).symm
   exact⟨cf3,fun j t ht=>by
    rw [Tryz.params4] at ht
    have hm:t∈[22,9,3]:=by simpa using Array.mem_of_getElem? ht
    exact (show Tryz.prog.wantsStandIn t=false by simpa using List.all_eq_true.1 cf6 t hm)⟩)
  cf4
end Go.Proofs.YtnjaappmhadfdaaGreatDoor
