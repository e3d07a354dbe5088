/-
  Lemmas for the Fleet: what else they rest on. Conditions: none.
-/
import Derived.Test.YtlmphkpeajnhjaaGreatDoorPK11
set_option linter.unusedVariables false
set_option linter.unusedSimpArgs false
set_option maxRecDepth 100000
set_option maxHeartbeats 16000000
open Go.IntKind (i64 u64 i8 u8 i32 u32 i16 u16)
namespace Go.Proofs.YtlmphkpeajnhjaaGreatDoor
open Go
section
variable {κ α:Type}{er:κ->Value}{d_:α->Value}{r:Nat}{m m':List (κ×α)}{H:aC}{L:List aF}{P:Program}
theorem aA.ab7(h:aA H L)(i:Nat)(a:aX i L=mapA er d_ r m):(aJ m).Nodup:=Au (F:=star (del i L)) (by have:=h.FU i;rw[a]at this;exact this)
variable [DecidableEq κ]{t k e:Nat}{z:α}(T:jB P t k e d_ z)(KO:lH P k er)
include T KO
end
open Go Go.Maps Go.RowKit
open Go Go.ChangeShapes Go.WideShapes Go.ChangeAt Go.RowKit
def ZA(P:Program)(t:TypeId)(xs:Xa)(o:Nat):Option Value:=
 match P.underlying t with
 | none=>none
 | some (.struct _)=>if (P.info? t).isSome then some (.agg ⟨(xs.drop o).take (P.cellsOf t)⟩) else none
 | some (.array _ _)=>if (P.info? t).isSome then some (.agg ⟨(xs.drop o).take (P.cellsOf t)⟩) else none
 | some (.int _)=>aT xs o
 | some .bool=>aT xs o
 | some .string=>aT xs o
 | _=>none
def q3n(P:Program):Nat->TypeId->Value->Bool
 | 0,_,_=>false
 | n+1,t,v=>match P.underlying t,v with
  | some (.int _),.int _ _=>true
  | some .bool,.bool _=>true
  | some .string,.string _=>true
  | some (.struct fs),.agg xs=>!P.stoodInHeld t&&fs.toList.all λf=>(f.name != "_")&&match ZA P f.type xs.toList f.offset with
   | some a=>q3n P n f.type a
   | none=>false
  | some (.array k e),.agg xs=>(P.info? e).isSome&&(List.range k).all λi=>match ZA P e xs.toList (i*P.cellsOf e) with
   | some a=>q3n P n e a
   | none=>false
  | _,_=>false
variable {f:aY}{H:aC}{P:Program}{t:TypeId}{o:Nat}{b:KQ}{A:Array Value}
theorem q3r{w:World}{a:Value}(h:ZA P t A.toList o=some a):(part t A o).run P w=.ok a w:=by
 unfold ZA at h;cases hu:P.underlying t with
  | none=>rw[hu]at h;cases h
  | some k=>
  rw[hu]at h;let⟨A⟩:=A;cases k <;> dsimp only at h;case int=>rw[iE]at h;simp[part,isAgg,run_underlying hu,h]
  case bool=>rw[iE]at h;simp[part,isAgg,run_underlying hu,h]
  case string=>rw[iE]at h;simp[part,isAgg,run_underlying hu,h]
  case struct fs=>
   split at h;.rename_i hi;let⟨i,hi⟩:=Option.isSome_iff_exists.1 hi;cases h;simp[part,isAgg,run_underlying hu,run_sizeOf w hi,List.extract_eq_take_drop]
   cases h
  case array n e=>
   split at h;.rename_i hi;let⟨i,hi⟩:=Option.isSome_iff_exists.1 hi;cases h;simp[part,isAgg,run_underlying hu,run_sizeOf w hi,List.extract_eq_take_drop]
   cases h
  all_goals cases h
theorem q3s{P:Program}:∀(n:Nat) {t:TypeId} {v:Value},q3n P n t v=true->∀(d:Nat) (w:World),n<=d->(Op.equalIn d t v v).run P w=.ok true w
 | 0,t,v,h,d,w,hd=>by simp[q3n]at h
 | n+1,t,v,h,0,w,hd=>ez
 | n+1,t,v,h,d+1,w,hd=>by
  have y:=@q3s P n
  cases hu:P.underlying t with
  | none=>unfold q3n at h;rw[hu]at h;cases h
  | some k=>
   cases k <;> cases v <;> (unfold q3n at h;rw[hu]at h;dsimp only at h) <;> try (cases h)
   case some.int.int.refl=>simp[Op.equalIn,run_underlying hu]
   case some.bool.bool.refl=>simp[Op.equalIn,run_underlying hu]
   case some.string.string.refl=>simp[Op.equalIn,run_underlying hu,beq_toListBytes]
   case some.struct.agg fs xs=>
    have x:P.fieldsOf t=fs:=by simp[Program.fieldsOf,hu]
    have u:P.underlying t=some (.struct (P.fieldsOf t)):=by rw[x];exact hu
    rw[p_]at h;rw[run_equalIn_struct w d t xs xs u (eu h.1),x];have b:=h.2;generalize fs.toList=l at b
    induction l with
    | nil=>simp[Op.eqFields]
    | cons f l il=>
     rw[List.all_cons,p_,p_]at b;let⟨⟨A,c⟩,s⟩:=b
     split at c
     .rename_i a m;have B:f.name≠ "_":=eu A
      simp only[Op.eqFields,ne_eq,B,not_false_eq_true,if_true,Sem.run_bind,q3r m,Result.andThen_ok,y c d w ez];simpa using il s
     .cases c
   case some.array.agg k e xs=>
    rw[p_]at h;let⟨i,hi⟩:=Option.isSome_iff_exists.1 h.1;rw[run_equalIn_array w d xs xs hu hi];have b:=h.2;generalize List.range k=l at b
    induction l with
    | nil=>simp[Op.eqItems]
    | cons j l il=>
     rw[List.all_cons,p_]at b;let⟨c,s⟩:=b
     split at c
     .rename_i a m;simp only[Op.eqItems,Sem.run_bind,q3r m,Result.andThen_ok,y c d w ez];simpa using il s
     .cases c
theorem q3t{n:Nat}(c:P.eqGuardType P.depth t=false)(h:q3n P n t (.agg A)=true)(e:n<=10000):i8 P .eql t (.agg A) (.agg A) true/\i8 P .neq t (.agg A) (.agg A) false:=by
 have d:∀w,(Op.equalIn 10000 t (.agg A) (.agg A)).run P w=.ok true w:=λw=>q3s n h 10000 w e;constructor;.intro b a w;simp only[Sem.run_bind,run_eqGuard_agg w .eql t b a A A c,Result.andThen_ok,run_eql_struct,d]
 intro b a w;simp only[Sem.run_bind,run_eqGuard_agg w .neq t b a A A c,Result.andThen_ok,run_neq_struct,d];rfl
abbrev alb(a0:KQ)(a1:Value):Xa:=[.pointer a0,a1]
abbrev q3o(f:FuncId)(l:Xa)(H:aC)(k:Xa->aC->Prop):Prop:=CF f ⟨l⟩ H λu H'=>∃a0 a1 a2 a3 a4 a5 a6 a7 a8 a9 DI E4 a12 Fg FW,u=.agg ⟨[aB a0,aB a1,aB a2,aB a3,aB a4,aB a5,aB a6,aB a7,.string a8,.slice a9 DI E4,.slice a12 Fg FW]⟩/\k ([aB a0,aB a1,aB a2,aB a3,aB a4,aB a5,aB a6,aB a7,.string a8,.slice a9 DI E4,.slice a12 Fg FW]) H'
abbrev q3u(c:Prop)(H:aC)(b o:Nat)(k:Xa->Prop):Prop:=∃a0 a1 a2 a3,(c->bE H b o ([aB a0,aB a1,aB a2,aB a3]))/\k ([aB a0,aB a1,aB a2,aB a3])
abbrev q3v(c:Prop)(H:aC)(b o:Nat)(k:Xa->Prop):Prop:=∃a0 a1 a2 a3 a4 a5 a6 a7 a8 a9 DI E4 a12 Fg FW,(c->bE H b o ([aB a0,aB a1,aB a2,aB a3,aB a4,aB a5,aB a6,aB a7,aB a8,aB a9,aB DI,aB E4,aB a12,aB Fg,aB FW]))/\k ([aB a0,aB a1,aB a2,aB a3,aB a4,aB a5,aB a6,aB a7,aB a8,aB a9,aB DI,aB E4,aB a12,aB Fg,aB FW])
theorem q42{a:Int}{s:Int}{c:Int}{d:Int}{e:Int}{f:Int}{g:Int}{i:Int}{j:Int}{k:Int}{a0:Int}{a1:Int}{a2:Int}{a3:Int}{a4:Int}{l:Nat}{m:Nat}{n:Nat}{t:KQ}{K:KE}(h : AL H (uV a s c d e f g i j k a0 a1 a2 a3 a4) 27 λb7 n4=>AL n4 [.bool false] 4 λu n5=>XA 6 [] n5 λn6 c4=>IF (!n6) (ST c4 u 0 [.bool false] λe4=>Hh e4 u 0 λn7=>K (.bool n7) e4) (∀d5:Xy,(∀g2 c2,(IF g2 (ST c2 u 0 [.bool true] λe5=>Hh e5 u 0 λn8=>K (.bool n8) e5) (AU c2 b7 0 λn9=>TP 8 (ahS (.agg ⟨n9⟩) b l m) c2 λr1 c5=>IF r1.isNone (AU c5 b7 0 λo0=>agi 9 [.agg ⟨o0⟩] c5 λo1 o2=>XA 10 [.agg ⟨o1⟩] o2 λo3 o4=>ST o4 u 0 [.bool (!o3)] λe6=>Hh e6 u 0 λo5=>K (.bool o5) e6) (He 11 [.pointer r1] c5 λo6 b0 o7 o8=>He 12 [.pointer r1] o8 λc6 a6 v1 o9=>NM o9 λp0 p1=>AL p1 [.map none] 46 λb8 p2=>ST p2 b8 0 [.map (some p0)] λp3=>C_f 13 [.pointer r1] p3 λe7 p4 p=>bK e7 X.calls=true/\ ∀y:Loop,y.state=.ready->y.pending=none->(∀(m7:Xa) (d8:aC) (m8:KE),(∃g3 g4 g5 g6 g7 g8 g9,m7=(ahT (aix g3 g4 g5) (ad_ g6 g7 g8 g9))/\ d8[p.size+1]?=some (.loop y)/\ AL d8 (kC 0 0 0) 50 λe8 p5=>ST p5 e8 0 (kC g3 g4 g5) λp6=>AL p6 Xv 56 λe9 p7=>ST p7 e9 0 (YH g6 g7 g8 g9) λf0=>f0[p.size+1]?=some (.loop y)/\ ∀b5:aC,b5=iD f0 (p.size+1) { y with state:=.busy }->gN b5 b8 0 λp8=>Jg b5 e8 0 λp9=>rB b5 e9 0 λq0=>MU 46 (.map p8) (.agg ⟨p9⟩) (.agg ⟨q0⟩) b5 λf1=>f1[p.size+1]?=some (.loop { y with state:=.busy })/\m8 (.bool true) (iD f1 (p.size+1) y))->fu Tryz.prog (p.size+1) m7 d8 m8)->CF e7 ⟨(.func (.yield (p.size+1)) #[] #[])::p4⟩ ((p.push (.deferred (some []))).push (.loop y)) λv2 f2=>∃(m9:LoopState) (d9:Option Code),m9≠.busy/\f2[p.size+1]?=some (.loop { y with state:=m9,pending:=d9 })/\ ∀d6:aC,d6=iD f2 (p.size+1) { y with state:=.exhausted,pending:=d9 }->d9=none/\ HL 14 [.pointer r1] d6 λc7=>∃(e0:eH) (n0:hZ),e0 0 d6/\ ∀a9 b4,e0 a9 b4->ID (a9<n) (IA a9 n t λq1 q2=>uU b4 q1 (q2+a9.toNat*11) λq3=>q3o 16 [.agg ⟨q3⟩] b4 λq4 q5=>Ff 15 (alb r1 (.agg ⟨q4⟩)) q5 λv3 f3=>e0 (i64.wrap (a9+1)) f3/\n0 (i64.wrap (a9+1)) f3<n0 a9 b4) (He 11 [.pointer r1] b4 λq6 c8 c9 q7=>He 12 [.pointer r1] q7 λb3 a5 v4 b9=>HL 14 [.pointer r1] b9 λd0=>(((((decide (d0<c7))||(decide ((c8:Int)<(b0:Int))))||(decide ((a5:Int)<(a6:Int))))=false)->(BD 0 b0 c9))/\ ak3 ((((decide (d0<c7))||(decide ((c8:Int)<(b0:Int))))||(decide ((a5:Int)<(a6:Int))))=false) 17 (fW (y_ q6 0 c9 1) b0 c9 o6 b0 o7) b9 λq8=>IF ((((decide (d0<c7))||(decide ((c8:Int)<(b0:Int))))||(decide ((a5:Int)<(a6:Int))))||(!q8)) (ST b9 u 0 [.bool false] λd1=>d1[p.size]?=some (.deferred (some []))/\ Hh (d1.setIfInBounds p.size (.deferred none)) u 0 λq9=>K (.bool q9) (d1.setIfInBounds p.size (.deferred none))) (∃(e1:eH) (n1:hZ),e1 0 b9/\ ∀i1 v,e1 i1 v->ID (i1<a6) (IA i1 a5 b3 λs0 s1=>Jg v s0 (s1+i1.toNat*9) λs2=>IA i1 a6 c6 λs3 s4=>Jg v s3 (s4+i1.toNat*9) λs5=>∃r:Bool,i8 Tryz.prog .neq 50 (.agg ⟨s2⟩) (.agg ⟨s5⟩) r/\ ((r=false)->(IX i1 a5))/\∃k3 k4:Nat,((r=false)->(b3=some ⟨k3,k4,none⟩))/\ lI (r=false) v k3 (k4+i1.toNat*9+4) λw=>((r=false)->(IX i1 a6))/\∃k5 k6:Nat,((r=false)->(c6=some ⟨k5,k6,none⟩))/\ lI (r=false) v k5 (k6+i1.toNat*9+4) λx=>(((r||(!decide (w=x)))=false)->(IX i1 a5))/\∃k7 k8:Nat,(((r||(!decide (w=x)))=false)->(b3=some ⟨k7,k8,none⟩))/\ lI ((r||(!decide (w=x)))=false) v k7 (k8+i1.toNat*9+5+1) λa7=>(((r||(!decide (w=x)))=false)->(IX i1 a6))/\∃k9 m0:Nat,(((r||(!decide (w=x)))=false)->(c6=some ⟨k9,m0,none⟩))/\ lI ((r||(!decide (w=x)))=false) v k9 (m0+i1.toNat*9+5+1) λa8=>(((((r||(!decide (w=x)))||(!decide (a7=a8)))=false)/\(decide (0<i1))=true)->(IX i1 a5))/\∃m1 m2:Nat,(((((r||(!decide (w=x)))||(!decide (a7=a8)))=false)/\(decide (0<i1))=true)->(b3=some ⟨m1,m2,none⟩))/\ lI ((((r||(!decide (w=x)))||(!decide (a7=a8)))=false)/\(decide (0<i1))=true) v m1 (m2+i1.toNat*9+4) λs6=>(((((r||(!decide (w=x)))||(!decide (a7=a8)))=false)/\(decide (0<i1))=true)->(IX (i64.wrap (i1-1)) a5))/\∃m3 m4:Nat,(((((r||(!decide (w=x)))||(!decide (a7=a8)))=false)/\(decide (0<i1))=true)->(b3=some ⟨m3,m4,none⟩))/\ lI ((((r||(!decide (w=x)))||(!decide (a7=a8)))=false)/\(decide (0<i1))=true) v m3 (m4+(i64.wrap (i1-1)).toNat*9+4) λs7=>IF (((r||(!decide (w=x)))||(!decide (a7=a8)))||((decide (0<i1))&&(decide (s6<s7)))) (ST v u 0 [.bool false] λd2=>d2[p.size]?=some (.deferred (some []))/\ Hh (d2.setIfInBounds p.size (.deferred none)) u 0 λs8=>K (.bool s8) (d2.setIfInBounds p.size (.deferred none))) (e1 (i64.wrap (i1+1)) v/\n1 (i64.wrap (i1+1)) v<n1 i1 v)) (AL v [aB 0] 3 λc0 s9=>ST s9 c0 0 [aB 0] λt0=>C_f 13 [.pointer r1] t0 λf4 t1 q=>bK f4 X.calls=true/\ ∀R1:Loop,R1.state=.ready->R1.pending=none->(∀(n2:Xa) (e2:aC) (e3:KE),(∃i0 i2 i3 i4 i5 i6 i7,n2=(ahT (aix i0 i2 i3) (ad_ i4 i5 i6 i7))/\ e2[q.size+1]?=some (.loop R1)/\ AL e2 (kC 0 0 0) 50 λf5 t2=>ST t2 f5 0 (kC i0 i2 i3) λt3=>AL t3 Xv 56 λf6 t4=>ST t4 f6 0 (YH i4 i5 i6 i7) λf7=>f7[q.size+1]?=some (.loop R1)/\ ∀b6:aC,b6=iD f7 (q.size+1) { R1 with state:=.busy }->gN b6 b8 0 λt5=>Jg b6 f5 0 λt6=>∃i9 k0 k1 k2,∃b2:Bool,dt Tryz.prog (Instr.lookup 46 (.map t5) (.agg ⟨t6⟩) true) b6 (mD (ad_ i9 k0 k1 k2) b2)/\ AL b6 Xv 56 λf8 t7=>ST t7 f8 0 (YH i9 k0 k1 k2) λb1=>q3u (b2=true) b1 f8 0 λt8=>q3u (b2=true) b1 f6 0 λt9=>∃m5:Bool,((b2=true)->i8 Tryz.prog .neq 56 (.agg ⟨t8⟩) (.agg ⟨t9⟩) m5)/\ IF (b2&&m5) (ST b1 u 0 [.bool false] λf9=>f9[q.size+1]?=some (.loop { R1 with state:=.busy })/\e3 (.bool false) (iD f9 (q.size+1) { R1 with state:=.done,pending:=some .ret })) (∀d7:dL,(∀d4,(d4[q.size+1]?=some (.loop { R1 with state:=.busy })/\e3 (.bool true) (iD d4 (q.size+1) R1))->d7 d4)->IF b2 (aO b1 c0 0 λu0=>ST b1 c0 0 [aB (i64.wrap (u0+1))] λu1=>d7 u1) (d7 b1)))->fu Tryz.prog (q.size+1) n2 e2 e3)->CF f4 ⟨(.func (.yield (q.size+1)) #[] #[])::t1⟩ ((q.push (.deferred (some []))).push (.loop R1)) λv5 g0=>∃(n3:LoopState) (c3:Option Code),n3≠.busy/\g0[q.size+1]?=some (.loop { R1 with state:=n3,pending:=c3 })/\ ∀z:aC,z=iD g0 (q.size+1) { R1 with state:=.exhausted,pending:=c3 }->((c3=none/\ aO z c0 0 λu2=>gN z b8 0 λu3=>∃m6:Int,dt Tryz.prog (Builtin.len_ #[46] 3 #[.map u3]) z (.int .i64 m6)/\ ST z u 0 [.bool (decide (u2=m6))] λc1=>c1[q.size]?=some (.deferred (some []))/\ (c1.setIfInBounds q.size (.deferred none))[p.size]?=some (.deferred (some []))/\ Hh ((c1.setIfInBounds q.size (.deferred none)).setIfInBounds p.size (.deferred none)) u 0 λu4=>K (.bool u4) ((c1.setIfInBounds q.size (.deferred none)).setIfInBounds p.size (.deferred none)))\/ c3=(some .ret)/\ z[q.size]?=some (.deferred (some []))/\ (z.setIfInBounds q.size (.deferred none))[p.size]?=some (.deferred (some []))/\ Hh ((z.setIfInBounds q.size (.deferred none)).setIfInBounds p.size (.deferred none)) u 0 λu5=>K (.bool u5) ((z.setIfInBounds q.size (.deferred none)).setIfInBounds p.size (.deferred none)))))))))->d5 g2 c2)->AU c4 b7 0 λu6=>XA 7 (ahS (.agg ⟨u6⟩) b l m) c4 λg1 d3=>q3v (g1=false) d3 b7 0 λu7=>JF (g1=false) (XA 7 (ahS (.agg ⟨u7⟩) t n o) d3 λu9 v0=>d5 u9 v0) (d5 true d3))):CF 3 ⟨[(aea a s c d e f g i j k a0 a1 a2 a3 a4),.slice b l m,.slice t n o]⟩ H K:=cFE (.r (.seq (.r (.cond (.r .no) .no)) (.seq (.seq (.RO [(32,sB)]) (.cond (.r .no) .no)) (.r (.seq (.r (.cond (.r .no) .no)) (.r (.r (.r (.seq (.r (.DT (.FH [.agg [.int .i64, .int .i64, .int .i64],.agg [.int .i64, .int .i64, .int .i64, .int .i64]] [none] (.r .CA) (.DT .CA)))) (.r (.seq (.r (.DT (.loop [(14,sI)] (.seq (.r (.cond .no .no)) (.seq (.DT .CA) .CA))))) (.r (.r (.seq (.r (.cond (.r .no) .no)) (.seq (.r (.DT (.loop [(17,sI)] (.seq (.r (.cond .no .no)) (.seq (.DT (.r (.cond (.r .no) .no))) .CA))))) (.r (.seq (.r (.DT (.FH [.agg [.int .i64, .int .i64, .int .i64],.agg [.int .i64, .int .i64, .int .i64, .int .i64]] [none,(some .ret)] (.r .CA) (.DT (.r (.seq (.r (.cond (.r .no) .no)) (.r (.G_ [] .CA .no)))))))) (.r .no)))))))))))))))))) h
open Go.Shelf
open Go.Shelf
open Go.Shelf
open Go.Shelf
open  Go.RowKit Go.Maps Go.Sort Go.Shelf
theorem q3x{a:KQ}{c d:Nat}{xs ys:List Int}(w:aQ H a (xs.map U8))(hb:aQ H b (ys.map U8))(A:xs.length<=1099511627776) : bX Tryz.prog 24 #[.slice a xs.length c,.slice b ys.length d] H (.bool (decide (xs=ys))):=by
 unfold bX;refine cN 24 0x1d21562139925b4c [[(5,sI)]] ⟨λx=>?_,λx=>?_⟩
 .have:xs.length≠ys.length:=by grind
  refine⟨?_,rfl⟩;rw[decide_eq_false (λe=>this (by rw[e]))];rfl
 have t:xs.length=ys.length:=by grind
 refine⟨λi u=>u=H/\∃k:Nat,i=k/\k<=xs.length/\xs.take k=ys.take k,λi _=>xs.length-i.toNat,⟨rfl,0,rfl,EG _,rfl⟩,?_⟩;rintro i u ⟨rfl,k,rfl,y,v⟩;refine⟨λm=>?_,λm=>?_⟩
 .have f:k<xs.length:=by grind
  have n:=w.at f;have s:=hb.at (j:=k) ez;have e3:i64.wrap ((k:Int)+1)=((k+1:Nat):Int):=aN;refine⟨⟨ez,ez⟩,_,_,n.1,_,n.2,⟨ez,ez⟩,_,_,s.1,_,s.2,λh=>?_,λh=>?_⟩
  .have:xs[k]≠ys[k]:=by grind
   refine⟨?_,rfl⟩;rw[decide_eq_false (λe=>this (by simp[e]))];rfl
  have:xs[k]=ys[k]:=by grind
  conv=>whnf
  rw[e3];refine⟨⟨rfl,k+1,rfl,f,?_⟩,by grind⟩;grind [List.take_succ_eq_append_getElem]
 have:k=xs.length:=by grind
 subst this;rw[FP (yb _),FP ez]at v;exact⟨by rw[V_ v];rfl,rfl⟩
open  Go.RowKit Go.Maps Go.Sort Go.Shelf
open  Go.Shelf Go.RowKit Go.Lib Go.Sort
open  Go.RowKit Go.Sort
open  Go.Sort
open  Go.Shelf Go.RowKit Go.Lib Go.Sort
def XR(f:aY)(l:List E5):List (E5×(Vd×Pt)):=l.foldl (λm k=>eO k (FF f k) m) []
theorem q3q(f:aY)(l:List E5)(k:E5):XR f (l++[k])=eO k (FF f k) (XR f l):=by grind [XR]
theorem q3z(f:aY)(l:List E5)(k:E5):aK k (XR f l)=if k∈l then some (FF f k) else none:=by
 suffices h:∀r:List E5,aK k (XR f r.reverse)=if k∈r then some (FF f k) else none by grind [List.reverse_reverse]
 intro r;induction r with
  | nil=>rfl
  | cons x r ih=>rw[List.reverse_cons,q3q,pm];grind
theorem aeB:∀{l:List E5},l.Nodup->(XR f l).length=l.length:=by
 suffices h:∀r:List E5,r.Nodup->(XR f r.reverse).length=r.length by grind [List.length_reverse]
 intro r;induction r with
  | nil=>intro _;rfl
  | cons x r ih=>
  intro a;rw[q2d]at a;rw[List.reverse_cons,q3q];have b:aK x (XR f r.reverse)=none:=by rw[q3z,b_ (by grind)]
  grind [eO,lG]
theorem q40{F:List aF}{Q:aF}{ab:Nat->Nat}(h:aA H (gx Q o ab f::F)):(aJ f.nn).Nodup:=by let⟨x,ys,fs,a,h⟩:=cB.1 h;let⟨mb,h⟩:=oq.1 (h.o [1,0,2,3,4,5,6,7,8] 9);exact h.ab7 1 rfl
theorem ahd:jB Tryz.prog 46 50 56 Fe ((⟨0,0⟩,(0,0)):Vd×Pt):=ny Tryz.underlying46 kf
theorem ajs(i:E5):i8 Tryz.prog .neq 50 (ji i) (ji i) false:=(q3t (n:=10) kf kf ee).2
theorem ajq(s:Vd×Pt):i8 Tryz.prog .neq 56 (Fe s) (Fe s) false:=(q3t (n:=10) kf kf ee).2
theorem q47{a:KQ}{c d:Nat}{xs ys:List Fy}(k:aQ H a (xs.map cD))(hb:aQ H b (ys.map cD))(s:∀x∈xs,aQ H x.a (x.bs.map U8))(n:∀x∈ys,aQ H x.a (x.bs.map U8)) (w:xs.map Fy.bs=ys.map Fy.bs) (G:xs.length<=1000000000000) (F:∀x∈xs,x.bs.length<=1000000):bX Tryz.prog 17 #[.slice a xs.length c,.slice b ys.length d] H (.bool true):=by
 have m:xs.length=ys.length:=by have:=congrArg List.length w;grind
 refine cN 17 0x1d21562139925b4c [[(5,sI)]] ⟨λh=>?_,λ_=>?_⟩;.rw [m]at h;simp at h
 refine⟨λt D=>D=H/\∃j:Nat,t=j/\j<=xs.length,λt _=>xs.length-t.toNat,⟨rfl,0,rfl,EG _⟩,?_⟩;rintro t u ⟨rfl,j,rfl,I⟩;refine⟨λh=>?_,λh=>⟨rfl,rfl⟩⟩;have f:j<xs.length:=by grind
 have e:j<ys.length:=ez;have C:i64.wrap ((j:Int)+1)=((j+1:Nat):Int):=by grind [aN]
 have one:∀l:List Fy,l.map cD=flat (λv=>[cD v]) l:=λl=>q3f;rw[one]at k hb;have A:aM u (aV a) (aS a+j)=some (cD xs[j]):=eu (k.el (λ_=>rfl) f 0 (v:=cD xs[j]) rfl);have B:aM u (aV b) (aS b+j)=some (cD ys[j]):=eu (hb.el (λ_=>rfl) e 0 (v:=cD ys[j]) rfl);have i:xs[j].bs=ys[j].bs:=by
  have e1:(xs.map Fy.bs)[j]'(by grind)=(ys.map Fy.bs)[j]'(by grind):=by simp[w]
  grind
 have y:=q3x (c:=xs[j].c) (d:=ys[j].c) (s _ (qa f)) (n _ (qa e)) (by grind);rw[V_ i]at y;exact⟨⟨ez,ez⟩,_,_,k.some (λ_=>rfl) ee f,_,_,_,A,⟨ez,ez⟩,_,_,hb.some (λ_=>rfl) ee e,_,_,_,B,_,y,(λE=>cS E eh),λ_=>⟨⟨rfl,j+1,C,f⟩,by grind⟩⟩
theorem ac6{f':aY}{ys:List E5}(c:∀k v,aK k f.nn=some v->aK k f'.nn=some v/\aK k f'.my=aK k f.my)(b:ys.Perm (aJ f'.nn))(a:(aJ f'.nn).Nodup)(e:(aJ f.nn).Nodup):(ys.filter λk=>decide (k∈aJ f.nn)).length=(aJ f.nn).length:=by
 have d:ys.Nodup:=b.nodup_iff.2 a;refine (List.Perm.length_eq ((List.perm_ext_iff_of_nodup (d.filter _) e).2 λk=>?_));rw[q2s,b.mem_iff];refine⟨λh=>j_ h.2,λh=>⟨?_,V_ h⟩⟩;cases hm:aK k f.nn with
  | none=>exact cS h (dX.1 hm)
  | some v=>
  have:=(c k v hm).1;by_cases hc:k∈aJ f'.nn;.exact hc
  rw [dX.2 hc]at this;cases this
theorem q48{f':aY}{k:E5}(c:∀k v,aK k f.nn=some v->aK k f'.nn=some v/\aK k f'.my=aK k f.my)(hm:k∈aJ f.nn):FF f' k=FF f k:=by cases hl:aK k f.nn with
  | none=>exact cS hm (dX.1 hl)
  | some v=>let⟨a,b⟩:=c k v hl;unfold FF;rw[a,b,hl]
theorem HI{c:SO}{ma:KQ}{mc:Nat}{xs N:List Ey}(hlen:xs.length<=maxLen)(hr:aQ H b (flat mX xs))(hxs:∀x∈xs,EyH H x)
  (j2:N.length<=maxLen) (y:aQ H ma (flat mX N)) (hzs:∀x∈N,EyH H x) :
  CF 3 #[.agg ⟨iU c⟩,.slice b xs.length o,.slice ma N.length mc] H λv H'=>v=.bool true/\eB H H':=by
 have hK0:=ZV hlen hr hxs;have hM0:=ZV j2 y hzs;refine q42 ((akj H).al λla _ h=>h.al λb1 _ h=>q03 (h.o [2,1,0] 3) λQ1 H1 J h=>⟨_,rfl,λhc=>by simp at hc,λ_=>?_⟩)
 have r0:=hK0.sub J;have hM1:=hM0.sub J;intro Jn hJ;have Z:∀t H',t=(grF c xs||grF c N)->aA H' [Q1,ax la (iU c) 27,ax b1 [.bool false] 4]->Jn t H':=by
  intro t Y ht h;refine hJ _ _ ⟨λn=>h.st 2 rfl rfl λH3 h=>⟨_,h.r 2,rfl,Dy J h⟩,λn=>?_⟩
  rw[n]at ht;obtain⟨hg,hg2⟩:=E8.1 ht.symm;have g1:=(X_ hg).1;obtain⟨g2,_,g3⟩:=X_ hg2;refine⟨_,_,_,_,_,_,_,_,_,_,_,_,_,_,_,h.q 1,ZT (c:=c) r0 hg h (λhn H3 h=>⟨_,rfl,λ_=>?_,λn=>cS n eh⟩) λhy Q2 fb ab f H3 hs2 I h=>⟨_,rfl,λn=>cS n eh,λ_=>?_⟩⟩
  .refine⟨_,_,_,_,_,_,_,_,_,_,_,_,_,_,_,h.q 1,adL (c:=c) h λH4 h=>⟨_,_,_,_,_,_,_,_,_,_,_,_,_,_,_,rfl,adH (c:=c) h λH5 h=>⟨_,rfl,h.st 2 rfl rfl λH6 h=>⟨_,h.r 2,⟨by rw[hn];rfl,Dy J h⟩⟩⟩⟩⟩
  have Q:=I.ok;have fr:=I.fr;have hsk:=Q.sink;have hfc:=Q.facts;have B:∀{g:aY},FFr g->∀la∈g.sink,la.length<=1000000:=λhfr la hb=>by
   obtain⟨_,x,n,_⟩:=hfr.sk la hb;have:=ac1 n;omega
  refine Pj (B fr) ez h λQ3 ys a2 c2 H4 hs3 hys hyi hyc h=>⟨_,_,_,rfl,ZL fr.fl ez (h.o [0,2,1,3,4] 5) λQ4 gs ga gc H5 l0 r8 hgk h=>⟨_,_,_,rfl,h.XE ji Fe λmb _ h=>h.al λb3 _ h=>h.st 0 rfl rfl λH6 h=>cM 13 28 (h.al λc1 _ h=>⟨_,_,rfl,rfl,λR hR1 hR2 hyR=>?_⟩)⟩⟩
  rename_i Hd;have h:=h.FH R;have h8:=aA.shut [_,_,_] (h.o [3,4,0,2,7,1,5,6,8,9,10] 11);refine ZQ (f:=f) ez (λys q=>star [ax b3 [.map (some mb)] 46,mapA ji Fe mb (XR f (ys.take q)),pt (Hd.size+1) (.loop R)]) (star [ax b3 [.map (some mb)] 46,mapA ji Fe mb [],pt (Hd.size+1) (.loop R)]) (h8.o [1,2,0,3,4,5,6,7,8] 9) (λys _ _ h=>h) ?_ ?_
  .intro G q U G1 H1 K1 hp h kt;have h:=aA.open (A:=[_,_,_]) h;refine hyR _ _ _ ⟨_,_,_,_,_,_,_,rfl,h.eY 2 rfl,h.al λb4 _ h=>h.st 0 rfl rfl λY h=>h.al λb5 _ h=>h.st 0 rfl rfl λH3 h=>⟨h.eY 4 rfl,h.Fu 4 rfl λH4 h=>⟨_,h.r 2,_,_,_,h.q 1,_,_,_,_,h.q 0,h.ix (x:=G[q]) (v:=FF f G[q]) ahd mR 3 rfl λH5 h=>⟨h.eY 4 rfl,kt _ ?_⟩⟩⟩⟩
   have h:=h.n_ 4 rfl (.loop R);have h:=aA.shut [_,_,_] (h.o [2,3,4] 5);rw[YX U,q3q];exact h
  intro G H7 hp h;rw[FJ]at h;have h:=aA.open (A:=[_,_,_]) (bY h);refine⟨.ready,none,ee,by rw[lp hR1 hR2];exact h.eY 2 rfl,h.Fu 2 rfl λH8 h=>⟨rfl,?_⟩⟩
  have hnd:=q40 (h.o [3] 10);have hks:G.Nodup:=hp.nodup_iff.2 hnd;refine⟨_,Es (h.o [3] 10),?_⟩;obtain⟨i0,hi0⟩:∃i0,2+4*xs.length=i0:=⟨_,rfl⟩;rw[hi0]at Q hsk hfc;have h:=h.o [5,3,0,1,4,6,7,8,9] 10;refine⟨λi H'=>∃(j:Nat) (Q':aF) (f':aY),i=j/\j<=N.length/\aH Q4 Q'/\Fi f' (i0+4*j) f/\aA H' (Q'::gx Q' fb ab f'::ax b3 [.map (some mb)] 46::mapA ji Fe mb (XR f G)::pt Hd.size (.deferred (some []))::ay 71 9 ga gs.length gc (flat fM gs)::DB a2 c2 ys::ax la (iU c) 27::ax b1 [.bool false] 4::[]),
   λi _=>N.length-i.toNat,⟨0,Q4,f,rfl,EG _,aH.refl Q4,⟨Q,fr,Kp.refl f⟩,h⟩,?_⟩
  have hM4:=((hM1.sub hs2).sub hs3).sub l0
  clear h
  rintro i H9 ⟨j,Q5,f',rfl,hj,H0,I5,h⟩;refine⟨λW=>?_,λW=>?_⟩
  .have s:j<N.length:=by have:=j_ W;omega
   have hw:i64.wrap ((j:Int)+1)=((j+1:Nat):Int):=by rw[aN];omega
   have hr:=(hM4.row.sub H0).at h 0 rfl;have hin:=(hM4.ins _ (qa s)).sub H0;refine⟨⟨ez,ez⟩,_,_,hr.some pg ee s,_,_,_,_,_,_,_,_,_,_,_,_,_,_,_,hr.E6 pg s,ZR hin (g3 _ (qa s)) h λQ6 x' H10 s6 ak0 h=>⟨_,_,_,_,_,_,_,_,_,_,_,_,_,_,_,rfl,?_⟩⟩
   have h:=(uo s6 (bY h));refine aj9 I5 ez ak0 (g3 _ (qa s)) (bY h) λQ7 f7 r l6 s7 _ I' h=>⟨_,rfl,⟨j+1,Q7,f7,hw,s,(H0.trans s6).trans s7,by rw[show i0+4*(j+1)=i0+4*j+4 by omega];exact I',h⟩,by rw[hw];dsimp only;omega⟩
  obtain rfl:j=N.length:=by have:=h_ W;omega
  have ok5:=I5.ok;have P:=I5.fr;have kp:=I5.kp;have alw:=ok5.sink;have alD:=ok5.facts;refine Pj (B P) ez h λQ6 F a3 c3 H10 hs6 E akY alv h=>⟨_,_,_,rfl,ZL P.fl ez (h.o [0,2,1,3,4,5,6,7,8,9] 10) λQ7 m M gc' l6 h5 K alC h=>⟨_,_,_,rfl,⟨_,Es (h.o [2] 11),?_⟩⟩⟩;obtain⟨tsk,h4⟩:=kp.sink;obtain⟨tfc,V⟩:=kp.facts;have alz:=kp.now;have y3:ys.length=f.sink.length:=by rw[<-hys,FI]
  have y2:F.length=f'.sink.length:=by rw[<-E,FI]
  have hgl:gs.length=f.facts.length:=by rw[<-r8,FI]
  have ak1:m.length=f'.facts.length:=by rw[<-K,FI]
  have e2:ys.length<=F.length:=by rw[y3,y2,<-h4,po];omega
  have e3:gs.length<=m.length:=by rw[hgl,ak1,<-V,po];omega
  have hnc:=h.CD 3 rfl;have U:bX Tryz.prog 17 #[.slice (y_ a3 0 c3 1) ys.length c3,.slice a2 ys.length c2] l6 (.bool true):=by
   have ht:(F.take ys.length).length=ys.length:=by rw[YU];omega
   have hra:aQ l6 (y_ a3 0 c3 1) ((F.take ys.length).map cD):=by
    have:=(aQ.aem (k:=0) (h.a_ 3 rfl) (eu hnc)).take ys.length
    rwa[q2w,<-List.map_take]at this
   have:=q47 (c:=c3) (d:=c2) hra (h.a_ 8 rfl) (λx n=>((akY x (K2 n)).sub h5).at h 0 rfl) (λx n=>(((((hyi x n).sub l0).sub H0).sub hs6).sub h5).at h 0 rfl)
    (by rw[List.map_take,E,hys,y3,<-h4,List.take_left'];rfl) (by rw[ht];omega) λx n=>B P _ (by rw[<-E];exact List.mem_map_of_mem (K2 n))
   rwa[ht]at this
  refine⟨λ_=>⟨ez,ez,ez⟩,_,λ_=>U,λhb=>?_,λ_=>?_⟩
  .simp at hb;omega
  refine⟨λi H'=>∃j:Nat,i=j/\j<=gs.length/\aA H' [Q7,ay 71 9 M m.length gc' (flat fM m),gx Q7 fb ab f',DB a3 c3 F,ax b3 [.map (some mb)] 46,mapA ji Fe mb (XR f G),pt Hd.size (.deferred (some [])),ay 71 9 ga gs.length gc (flat fM gs),DB a2 c2 ys,ax la (iU c) 27,ax b1 [.bool false] 4],
   λi _=>gs.length-i.toNat,⟨0,rfl,EG _,h⟩,?_⟩
  clear U hnc h
  rintro i h9 ⟨j,rfl,hj,h⟩;refine⟨λn=>?_,λn=>?_⟩
  .have s:j<gs.length:=by have:=j_ n;omega
   have u:j<m.length:=ez
   have hw:i64.wrap ((j:Int)+1)=((j+1:Nat):Int):=by rw[aN];omega
   have w:∀x:Hc,(fM x).length=9:=λ_=>rfl
   have C:=h.a_ 7 rfl;have y:=h.a_ 1 rfl;have hat:∀q (U:q<gs.length) (hq':q<m.length),m[q].p=gs[q].p:=by
    intro q U hq';have h1:(m.map Hc.p)[q]'(eu hq')=f'.facts[q]'ez:=by simp[K]
    have h2:(gs.map Hc.p)[q]'(eu U)=f.facts[q]'ez:=by simp[r8]
    have h3:f'.facts[q]'ez=f.facts[q]'ez:=by
     have:∀(l:List Fc) (W:q<l.length),l=f'.facts->l[q]=f'.facts[q]'ez:=λl W e=>by subst e;rfl
     rw[<-this (f.facts++tfc) (by rw[po];omega) V,List.getElem_append_left]
    rw[q2h]at h1 h2;rw[h1,h2,h3]
   have l5:=hat j s u;have hid:m[j].id=gs[j].id:=congrArg Fc.id l5;have htr:m[j].tr=gs[j].tr:=congrArg Fc.tr l5;have hvl:m[j].e.value=gs[j].e.value:=congrArg (λx:Fc=>x.e.value) l5
   have s2:=y.some w ee u;have s1:=C.some w ee s;have c2:bE h9 (aV M) (aS M+j*9) (mi m[j].id):=⟨y.el w u 0 rfl,y.el w u 1 rfl,y.el w u 2 rfl⟩;have c1:bE h9 (aV ga) (aS ga+j*9) (mi gs[j].id):=⟨C.el w s 0 rfl,C.el w s 1 rfl,C.el w s 2 rfl⟩;have h7:(0:Int)<=(j:Int)/\(j:Int)<gs.length:=⟨ez,ez⟩;have T:(0:Int)<=(j:Int)/\(j:Int)<m.length:=⟨ez,ez⟩;obtain⟨v6,hv6,hv7⟩:∃v6:Int,(0<j->aM h9 (aV M) (aS M+(i64.wrap ((j:Int)-1)).toNat*9+4)=some (aD v6))/\(0<j->v6<=m[j].tr):=by
    by_cases h0:0<j
    .refine⟨(m[j-1]'ez).tr,λ_=>?_,λ_=>?_⟩
     .rw [aN,show ((j:Int)-1).toNat=j-1 by omega];exact y.el w (show j-1<m.length by omega) 4 rfl
     .have hs:=P.srt;rw[<-K,List.pairwise_map]at hs;exact q3e.1 hs (j-1) j ez u ez
    .exact⟨0,λh=>cS h h0,λh=>cS h h0⟩
   refine⟨T,_,_,s2,_,_,_,c2,h7,_,_,s1,_,_,_,c1,false,by rw[hid];exact ajs _,λ_=>T,_,_,λ_=>s2,m[j].tr,λ_=>y.el w u 4 rfl,λ_=>h7,_,_,λ_=>s1,gs[j].tr,λ_=>C.el w s 4 rfl,
    λ_=>T,_,_,λ_=>s2,m[j].e.value,λ_=>y.el w u 6 rfl,λ_=>h7,_,_,λ_=>s1,gs[j].e.value,λ_=>C.el w s 6 rfl,λ_=>T,_,_,λ_=>s2,m[j].tr,λ_=>y.el w u 4 rfl,
    λhc=>?_,_,_,λ_=>s2,v6,λhc=>hv6 (by have:=j_ hc.2;omega),λhb=>?_,λ_=>⟨⟨j+1,hw,s,h⟩,by rw[hw];dsimp only;omega⟩⟩
   .have h0:(0:Int)<j:=j_ hc.2;rw[aN];exact⟨ez,ez⟩
   .rw [htr,hvl]at hb;simp at hb;rw[htr]at hv7;omega
  clear n
  refine h.al λj1 _ h=>h.st 0 rfl rfl λH13 h=>cM 13 28 (h.al λc2' _ h=>⟨_,_,rfl,rfl,λR1 hR3 hR4 r9=>?_⟩)
  rename_i D;have h:=h.FH R1;obtain⟨cnt,L⟩:∃cnt:List E5->Nat,(λl:List E5=>(l.filter λk=>decide (k∈aJ f.nn)).length)=cnt:=⟨_,rfl⟩
  have hcs:∀l k,cnt (l++[k])=cnt l+if k∈aJ f.nn then 1 else 0:=by
   intro l k;rw[<-L];dsimp only;rw[List.filter_append,po]
   by_cases hk:k∈aJ f.nn <;> simp[hk]
  have hcl:∀l,cnt l<=l.length:=λl=>by rw[<-L];exact List.length_filter_le _ _
  have h8:=aA.shut [_,_,_,_] (h.o [3,8,9,0,2,6,1,4,5,7,10,11,12,13,14] 15);have h0:∀a:List E5,cnt (a.take 0)=0:=λa=>by have:=hcl (a.take 0);rw[YT,HB]at this;rw[YT];omega
  refine ZQ (f:=f') ez (λa q=>star [ax j1 [aD (cnt (a.take q):Nat)] 3,ax b3 [.map (some mb)] 46,mapA ji Fe mb (XR f G),pt (D.size+1) (.loop R1)]) (star [ax j1 [aD 0] 3,ax b3 [.map (some mb)] 46,mapA ji Fe mb (XR f G),pt (D.size+1) (.loop R1)]) (h8.o [1,2,0,3,4,5,6,7,8,9,10,11] 12) (λa _ _ h=>by rw[h0];exact h) ?_ ?_
  .intro a q U G1 H1 K1 j3 h kt;have h:=aA.open (A:=[_,_,_,_]) h;have hkl:a.length=f'.nn.length:=by rw[j3.length_eq];simp[aJ]
   have hcq:=hcl (a.take q);rw[YU]at hcq;have hw:i64.wrap (((cnt (a.take q):Nat):Int)+1)=((cnt (a.take q)+1:Nat):Int):=by rw[aN];omega
   have O:cnt (a.take (q+1))=cnt (a.take q)+if a[q]∈aJ f.nn then 1 else 0:=by rw[YX U,hcs]
   have hkt:∀(v:Nat) Y,v=cnt (a.take (q+1))->aA Y (ax j1 [aD (v:Int)] 3::ax b3 [.map (some mb)] 46::mapA ji Fe mb (XR f G)::pt (D.size+1) (.loop { R1 with state:=.busy })::G1)->Y[D.size+1]?=some (.loop { R1 with state:=.busy })/\K1 (.bool true) (iD Y (D.size+1) R1):=by
    intro v Y hv h;refine⟨h.eY 3 rfl,kt _ ?_⟩;have h:=h.n_ 3 rfl (.loop R1);have h:=aA.shut [_,_,_,_] h;rw[hv]at h;exact h
   refine r9 _ _ _ ⟨_,_,_,_,_,_,_,rfl,h.eY 3 rfl,h.al λb16 _ h=>h.st 0 rfl rfl λY h=>h.al λb17 _ h=>h.st 0 rfl rfl λH3 h=>⟨h.eY 5 rfl,h.Fu 5 rfl λH4 h=>⟨_,h.r 3,_,_,_,h.q 1,?_⟩⟩⟩
   have W:=h.v_ (x:=a[q]) ahd mR 4 rfl;have S:=q3z f G a[q]
   by_cases hk:a[q]∈aJ f.nn
   .rw [c_ (hp.mem_iff.2 hk)]at S;rw[c_ hk]at O;have hsm:=q48 kp.nn hk;rw[hsm]at h;refine⟨_,_,_,_,true,(W.1 _ S).1,h.al λb18 _ h=>h.st 0 rfl rfl λH5 h=>⟨_,_,_,_,λ_=>h.q 0,_,_,_,_,λ_=>h.q 1,false,λ_=>ajq (FF f a[q]),λhb=>by simp at hb,λ_=>?_⟩⟩
    intro SL h6;refine⟨λ_=>⟨_,h.r 3,h.st 3 rfl rfl λH6 h=>h6 _ (hkt _ _ O.symm ?_)⟩,λn=>by cases n⟩
    rw[<-hw];exact h.o [3,4,5,6] 7
   .rw [b_ (λn=>hk (hp.mem_iff.1 n))]at S
    rw[b_ hk]at O;refine⟨_,_,_,_,false,(W.2 S).1,h.al λb18 _ h=>h.st 0 rfl rfl λH5 h=>⟨0,0,0,0,λn=>cS n ee,0,0,0,0,λn=>cS n ee,false,λn=>cS n ee,λhb=>cS hb ee,λ_=>?_⟩⟩
    intro SL h6;exact⟨(λn=>by cases n),λ_=>h6 _ (hkt _ _ O.symm (h.o [3,4,5,6] 7))⟩
  intro a H14 j3 h;rw[FJ]at h;have h:=aA.open (A:=[_,_,_,_]) (bY h);have u8:=q40 (h.o [4] 14);refine⟨.ready,none,ee,by rw[lp hR3 hR4];exact h.eY 3 rfl,h.Fu 3 rfl λH15 h=>.inl ⟨rfl,_,h.r 0,_,h.r 1,_,h.FK ahd 2 rfl,h.st 13 rfl rfl λH16 h=>⟨h.eY 5 rfl,?_⟩⟩⟩
  have h:=h.n_ 5 rfl (.deferred none);refine⟨h.eY 9 rfl,?_⟩;have h:=h.n_ 9 rfl (.deferred none);refine⟨_,h.r 13,?_,Dy (J.trans (hs2.trans (hs3.trans (l0.trans (H0.trans (hs6.trans h5)))))) (h.o [6] 14)⟩;have ak2:cnt a=(XR f G).length:=by
   rw[aeB hks,<-L];dsimp only;rw[ac6 kp.nn j3 u8 hnd,hp.length_eq]
  rw[ak2];exact congrArg Value.bool (V_ rfl)
 refine⟨_,_,_,_,_,_,_,_,_,_,_,_,_,_,_,h.q 1,ZS (c:=c) r0 h λY h=>⟨_,rfl,_,_,_,_,_,_,_,_,_,_,_,_,_,_,_,λ_=>h.q 1,λn=>?_,λn=>?_⟩⟩
 .exact ZS (c:=c) hM1 h λH3 h=>⟨_,rfl,Z _ _ (by rw[n,q33]) h⟩
 .have n:grF c xs=true:=eu n
  exact Z _ _ (by rw[n,Bool.true_or]) h
end Go.Proofs.YtlmphkpeajnhjaaGreatDoor
