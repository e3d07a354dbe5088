import Derived.Test.YtomdcdfcdeaabaaGreatT2
set_option maxRecDepth 100000
set_option linter.unusedVariables false
namespace Go.Proofs.YtomdcdfcdeaabaaGreat
open Go Go.Nm Go.Proofs

def slices_Backward_Record_1.l1 (yieldl : Nat) (c0b : Nat) (c0o : Nat) (K : Value → Heap → Prop) (Inv : Int → Heap → Prop) (mu : Int → Heap → Nat) (i : Int) (H_ : Heap) : Prop :=
  (((decide (0 ≤ i))) = true →
  ∃ va1 : Option Addr, ∃ vn1 : Nat, ∃ vc1 : Nat, cellAt H_ c0b c0o = some (.slice va1 vn1 vc1) ∧
  ((0 : Int) ≤ i ∧ i < (vn1 : Int)) ∧ ∃ b o : Nat, (va1 = some ⟨b, o, none⟩) ∧
  ∃ c0 : Int, ∃ c1a : Option Addr, ∃ c1n : Nat, ∃ c1c : Nat, cellsAre H_ b (o + i.toNat * 2) [(.int .i64 c0), (.slice c1a c1n c1c)] ∧
  YieldF Tryz.prog yieldl [(.int .i64 i), (.agg #[(.int .i64 c0), (.slice c1a c1n c1c)])] H_ fun u H_1 => ∃ r : Bool, u = (.bool r) ∧
  (((!r)) = true →
  K (.tuple #[]) H_1) ∧
  (((!r)) = false →
  Inv (IntKind.i64.wrap (i - 1)) H_1 ∧ mu (IntKind.i64.wrap (i - 1)) H_1 < mu i H_)) ∧
  (((decide (0 ≤ i))) = false →
  K (.tuple #[]) H_)

def slices_Backward_Record_1.code (yieldl : Nat) (c0b : Nat) (c0o : Nat) (H : Heap) (K : Value → Heap → Prop) : Prop :=
  ∃ va : Option Addr, ∃ vn : Nat, ∃ vc : Nat, cellAt H c0b c0o = some (.slice va vn vc) ∧
  ∃ (Inv : Int → Heap → Prop) (mu : Int → Heap → Nat), Inv (IntKind.i64.wrap ((vn : Int) - 1)) H ∧
  ∀ (i : Int), ∀ H_ : Heap, Inv i H_ → slices_Backward_Record_1.l1 yieldl c0b c0o K Inv mu i H_

def slices_Backward_Record_1.ann : Ann := (.seq .reg (.blk (.loop [(3, .one (.int .i64))] (.seq (.seq .reg (.cond .no .no)) (.seq (.blk (.seq .reg (.cond .no .no))) .reg)))))

theorem slices_Backward_Record_1.eq (yieldl : Nat) (c0b : Nat) (c0o : Nat) (H : Heap) (K : Value → Heap → Prop) : vcFun X Tryz.f43 slices_Backward_Record_1.ann [(.func (.yield yieldl) #[] #[]), (.pointer (some ⟨c0b, c0o, none⟩))] H K = slices_Backward_Record_1.code yieldl c0b c0o H K := by kernel_rfl

theorem slices_Backward_Record_1.call {yieldl : Nat} {c0b : Nat} {c0o : Nat} {H : Heap} {K : Value → Heap → Prop} (h : slices_Backward_Record_1.code yieldl c0b c0o H K) : CallF Tryz.prog 43 #[(.func (.yield yieldl) #[] #[]), (.pointer (some ⟨c0b, c0o, none⟩))] H K :=
  callF_of_eq (X := X) X_P X_wide X_bodied Tryz.func43 (slices_Backward_Record_1.eq yieldl c0b c0o H K) h

def slices_Clone_Record.code (sa : Option Addr) (sn : Nat) (sc : Nat) (H : Heap) (K : Value → Heap → Prop) : Prop :=
  ((sa.isNone) = true →
  K (.slice none 0 0) H) ∧
  ((sa.isNone) = false →
  ∀ (b : Nat) (H_ : Heap), b = H.size → H_ = H.push (.cells #[] 64) →
  RunW Tryz.prog (Builtin.append_ #[33, 33] 33 #[(.slice (some ⟨b, 0, none⟩) 0 0), (.slice sa sn sc)]) H_ fun u H_1 =>
  ∃ sa1 : Option Addr, ∃ sn1 : Nat, ∃ sc1 : Nat, u = (.slice sa1 sn1 sc1) ∧
  K (.slice sa1 sn1 sc1) H_1)

def slices_Clone_Record.ann : Ann := (.seq .reg (.seq (.seq .reg (.cond (.seq .reg .no) .no)) (.seq .reg .no)))

theorem slices_Clone_Record.eq (sa : Option Addr) (sn : Nat) (sc : Nat) (H : Heap) (K : Value → Heap → Prop) : vcFun X Tryz.f21 slices_Clone_Record.ann [(.slice sa sn sc)] H K = slices_Clone_Record.code sa sn sc H K := by kernel_rfl

theorem slices_Clone_Record.call {sa : Option Addr} {sn : Nat} {sc : Nat} {H : Heap} {K : Value → Heap → Prop} (h : slices_Clone_Record.code sa sn sc H K) : CallF Tryz.prog 21 #[(.slice sa sn sc)] H K :=
  callF_of_eq (X := X) X_P X_wide X_bodied Tryz.func21 (slices_Clone_Record.eq sa sn sc H K) h

def slices_Backward_Record.code (sa : Option Addr) (sn : Nat) (sc : Nat) (H : Heap) (K : Value → Heap → Prop) : Prop :=
  ∀ (b : Nat) (H_ : Heap), b = H.size → H_ = H.push (.cells #[(.slice sa sn sc)] 33) →
  K (.func (.func 43) #[] #[(.pointer (some ⟨b, 0, none⟩))]) H_

def slices_Backward_Record.ann : Ann := (.seq .reg (.seq .reg .no))

theorem slices_Backward_Record.eq (sa : Option Addr) (sn : Nat) (sc : Nat) (H : Heap) (K : Value → Heap → Prop) : vcFun X Tryz.f20 slices_Backward_Record.ann [(.slice sa sn sc)] H K = slices_Backward_Record.code sa sn sc H K := by kernel_rfl

theorem slices_Backward_Record.call {sa : Option Addr} {sn : Nat} {sc : Nat} {H : Heap} {K : Value → Heap → Prop} (h : slices_Backward_Record.code sa sn sc H K) : CallF Tryz.prog 20 #[(.slice sa sn sc)] H K :=
  callF_of_eq (X := X) X_P X_wide X_bodied Tryz.func20 (slices_Backward_Record.eq sa sn sc H K) h

def of_53.l1 (la : Option Addr) (ln : Nat) (K : Value → Heap → Prop) (Inv : (Option Addr) → Nat → Nat → Int → Heap → Prop) (mu : (Option Addr) → Nat → Nat → Int → Heap → Nat) (outa : Option Addr) (outn : Nat) (outc : Nat) (i : Int) (H_1 : Heap) : Prop :=
  (((decide (i < (ln : Int)))) = true →
  ((0 : Int) ≤ i ∧ i < (ln : Int)) ∧ ∃ b1 o : Nat, (la = some ⟨b1, o, none⟩) ∧
  ∃ v : Int, cellAt H_1 b1 (o + i.toNat * 2) = some (.int .i64 v) ∧
  ((0 : Int) ≤ i ∧ i < (ln : Int)) ∧ ∃ b2 o1 : Nat, (la = some ⟨b2, o1, none⟩) ∧
  ∃ va : Option Addr, ∃ vn : Nat, ∃ vc : Nat, cellAt H_1 b2 (o1 + i.toNat * 2 + 1) = some (.slice va vn vc) ∧
  ∀ (b3 : Nat) (H_2 : Heap), b3 = H_1.size → H_2 = H_1.push (.cells #[(.int .i64 v), (.slice va vn vc)] 124) →
  RunW Tryz.prog (Builtin.append_ #[40, 40] 40 #[(.slice outa outn outc), (.slice (some ⟨b3, 0, none⟩) 1 1)]) H_2 fun u H_3 =>
  ∃ sa : Option Addr, ∃ sn : Nat, ∃ sc : Nat, u = (.slice sa sn sc) ∧
  Inv sa sn sc (IntKind.i64.wrap (i + 1)) H_3 ∧ mu sa sn sc (IntKind.i64.wrap (i + 1)) H_3 < mu outa outn outc i H_1) ∧
  (((decide (i < (ln : Int)))) = false →
  K (.slice outa outn outc) H_1)

def of_53.code (la : Option Addr) (ln : Nat) (lc : Nat) (H : Heap) (K : Value → Heap → Prop) : Prop :=
  ∀ (b : Nat) (H_ : Heap), b = H.size → H_ = H.push (.cells #[] 124) →
  ∃ (Inv : (Option Addr) → Nat → Nat → Int → Heap → Prop) (mu : (Option Addr) → Nat → Nat → Int → Heap → Nat), Inv (some ⟨b, 0, none⟩) 0 0 0 H_ ∧
  ∀ (outa : Option Addr) (outn : Nat) (outc : Nat) (i : Int), ∀ H_1 : Heap, Inv outa outn outc i H_1 → of_53.l1 la ln K Inv mu outa outn outc i H_1

def of_53.ann : Ann := (.seq .reg (.seq .reg (.seq (.seq .reg (.blk (.loop [(3, .one (.slice)), (4, .one (.int .i64))] (.seq (.seq .reg (.cond .no .no)) (.seq (.blk .reg) .reg))))) (.seq .reg .no))))

theorem of_53.eq (la : Option Addr) (ln : Nat) (lc : Nat) (H : Heap) (K : Value → Heap → Prop) : vcFun X Tryz.f51 of_53.ann [(.slice la ln lc)] H K = of_53.code la ln lc H K := by kernel_rfl

theorem of_53.call {la : Option Addr} {ln : Nat} {lc : Nat} {H : Heap} {K : Value → Heap → Prop} (h : of_53.code la ln lc H K) : CallF Tryz.prog 51 #[(.slice la ln lc)] H K :=
  callF_of_eq (X := X) X_P X_wide X_bodied Tryz.func51 (of_53.eq la ln lc H K) h

def book_Trim.code (bb : Nat) (bo : Nat) (H : Heap) (K : Value → Heap → Prop) : Prop :=
  ∃ v : Bool, cellAt H bb (bo + 1) = some (.bool v) ∧
  (((!v)) = true →
  K (.int .i64 19) H) ∧
  (((!v)) = false →
  ∃ v1 : Option Addr, cellAt H bb bo = some (.pointer v1) ∧
  ∃ r : Int, CallQ Tryz.prog 12 #[(.pointer v1)] H (.int .i64 r) ∧
  ∃ v2 : Int, cellAt H bb (bo + 2) = some (.int .i64 v2) ∧
  (((decide (r ≤ v2))) = true →
  K (.int .i64 21) H) ∧
  (((decide (r ≤ v2))) = false →
  ∃ v3 : Option Addr, cellAt H bb bo = some (.pointer v3) ∧
  ∃ v4 : Int, cellAt H bb (bo + 3) = some (.int .i64 v4) ∧
  CallF Tryz.prog 40 #[(.pointer v3), (.int .i64 v4)] H fun u H_ => ∃ r1 : Int, u = (.int .i64 r1) ∧
  K (.int .i64 r1) H_))

def book_Trim.ann : Ann := (.seq .reg (.seq (.seq .reg (.cond (.seq .reg .no) .no)) (.seq (.seq .reg (.cond (.seq .reg .no) .no)) (.seq .reg .no))))

theorem book_Trim.eq (bb : Nat) (bo : Nat) (H : Heap) (K : Value → Heap → Prop) : vcFun X Tryz.f16 book_Trim.ann [(.pointer (some ⟨bb, bo, none⟩))] H K = book_Trim.code bb bo H K := by kernel_rfl

theorem book_Trim.call {bb : Nat} {bo : Nat} {H : Heap} {K : Value → Heap → Prop} (h : book_Trim.code bb bo H K) : CallF Tryz.prog 16 #[(.pointer (some ⟨bb, bo, none⟩))] H K :=
  callF_of_eq (X := X) X_P X_wide X_bodied Tryz.func16 (book_Trim.eq bb bo H K) h

def book_Save.l1 (bb : Nat) (bo : Nat) (statea : Option Addr) (staten : Nat) (statec : Nat) (K : Value → Heap → Prop) (Inv : Int → Int → Heap → Prop) (mu : Int → Int → Heap → Nat) (size : Int) (t15 : Int) (H_ : Heap) : Prop :=
  (((decide (t15 < (staten : Int)))) = true →
  ((0 : Int) ≤ t15 ∧ t15 < (staten : Int)) ∧ ∃ b o : Nat, (statea = some ⟨b, o, none⟩) ∧
  ∃ va : Option Addr, ∃ vn : Nat, ∃ vc : Nat, cellAt H_ b (o + t15.toNat) = some (.slice va vn vc) ∧
  (((decide (262144 < (IntKind.i64.wrap (size + (vn : Int)))))) = true →
  K (.tuple #[(.int .i64 (-1)), (.int .i64 17)]) H_) ∧
  (((decide (262144 < (IntKind.i64.wrap (size + (vn : Int)))))) = false →
  Inv (IntKind.i64.wrap (size + (vn : Int))) (IntKind.i64.wrap (t15 + 1)) H_ ∧ mu (IntKind.i64.wrap (size + (vn : Int))) (IntKind.i64.wrap (t15 + 1)) H_ < mu size t15 H_)) ∧
  (((decide (t15 < (staten : Int)))) = false →
  ∃ v : Option Addr, cellAt H_ bb bo = some (.pointer v) ∧
  CallF Tryz.prog 39 #[(.pointer v)] H_ fun u H_1 => ∃ r : Int, ∃ r1 : Int, u = (.tuple #[(.int .i64 r), (.int .i64 r1)]) ∧
  (((!decide (r1 = 0))) = true →
  K (.tuple #[(.int .i64 (-1)), (.int .i64 r1)]) H_1) ∧
  (((!decide (r1 = 0))) = false →
  ∃ v1 : Option Addr, cellAt H_1 bb bo = some (.pointer v1) ∧
  CallF Tryz.prog 38 #[(.pointer v1), (.int .i64 0), (.slice statea staten statec)] H_1 fun u1 H_2 => ∃ r2 : Int, ∃ r3 : Int, u1 = (.tuple #[(.int .i64 r2), (.int .i64 r3)]) ∧
  (((!decide (r3 = 0))) = true →
  K (.tuple #[(.int .i64 (-1)), (.int .i64 r3)]) H_2) ∧
  (((!decide (r3 = 0))) = false →
  ∃ v2 : Option Addr, cellAt H_2 bb bo = some (.pointer v2) ∧
  ∃ r4 : Int, CallQ Tryz.prog 13 #[(.pointer v2)] H_2 (.int .i64 r4) ∧
  canSet H_2 bb (bo + 1) [(.bool true)] ∧
  ∀ H_3 : Heap, H_3 = setAll H_2 bb (bo + 1) [(.bool true)] →
  canSet H_3 bb (bo + 2) [(.int .i64 r2)] ∧
  ∀ H_4 : Heap, H_4 = setAll H_3 bb (bo + 2) [(.int .i64 r2)] →
  canSet H_4 bb (bo + 3) [(.int .i64 r4)] ∧
  ∀ H_5 : Heap, H_5 = setAll H_4 bb (bo + 3) [(.int .i64 r4)] →
  K (.tuple #[(.int .i64 r2), (.int .i64 0)]) H_5)))

def book_Save.code (bb : Nat) (bo : Nat) (statea : Option Addr) (staten : Nat) (statec : Nat) (H : Heap) (K : Value → Heap → Prop) : Prop :=
  ∃ (Inv : Int → Int → Heap → Prop) (mu : Int → Int → Heap → Nat), Inv 0 0 H ∧
  ∀ (size : Int) (t15 : Int), ∀ H_ : Heap, Inv size t15 H_ → book_Save.l1 bb bo statea staten statec K Inv mu size t15 H_

def book_Save.ann : Ann := (.seq .reg (.seq .reg (.seq (.seq .reg (.blk (.loop [(6, .one (.int .i64)), (15, .one (.int .i64))] (.seq .reg (.seq (.cond .no .no) (.seq (.blk (.seq .reg (.seq .reg (.seq .reg (.cond (.seq .reg .no) .no))))) .reg)))))) (.seq (.seq .reg (.seq .reg (.cond (.seq .reg .no) .no))) (.seq .reg (.seq (.seq .reg (.cond (.seq .reg .no) .no)) (.seq .reg (.seq .reg .no))))))))

theorem book_Save.eq (bb : Nat) (bo : Nat) (statea : Option Addr) (staten : Nat) (statec : Nat) (H : Heap) (K : Value → Heap → Prop) : vcFun X Tryz.f15 book_Save.ann [(.pointer (some ⟨bb, bo, none⟩)), (.slice statea staten statec)] H K = book_Save.code bb bo statea staten statec H K := by kernel_rfl

theorem book_Save.call {bb : Nat} {bo : Nat} {statea : Option Addr} {staten : Nat} {statec : Nat} {H : Heap} {K : Value → Heap → Prop} (h : book_Save.code bb bo statea staten statec H K) : CallF Tryz.prog 15 #[(.pointer (some ⟨bb, bo, none⟩)), (.slice statea staten statec)] H K :=
  callF_of_eq (X := X) X_P X_wide X_bodied Tryz.func15 (book_Save.eq bb bo statea staten statec H K) h

def book_Append.code (bb : Nat) (bo : Nat) (kind : Int) (dataa : Option Addr) (datan : Nat) (datac : Nat) (H : Heap) (K : Value → Heap → Prop) : Prop :=
  (((decide (kind ≤ 0))) = true →
  K (.tuple #[(.int .i64 (-1)), (.int .i64 11)]) H) ∧
  (((decide (kind ≤ 0))) = false →
  ∃ v : Option Addr, cellAt H bb bo = some (.pointer v) ∧
  CallF Tryz.prog 38 #[(.pointer v), (.int .i64 kind), (.slice dataa datan datac)] H fun u H_ => ∃ r : Int, ∃ r1 : Int, u = (.tuple #[(.int .i64 r), (.int .i64 r1)]) ∧
  K (.tuple #[(.int .i64 r), (.int .i64 r1)]) H_)

def book_Append.ann : Ann := (.seq .reg (.seq (.seq .reg (.cond (.seq .reg .no) .no)) (.seq .reg .no)))

theorem book_Append.eq (bb : Nat) (bo : Nat) (kind : Int) (dataa : Option Addr) (datan : Nat) (datac : Nat) (H : Heap) (K : Value → Heap → Prop) : vcFun X Tryz.f14 book_Append.ann [(.pointer (some ⟨bb, bo, none⟩)), (.int .i64 kind), (.slice dataa datan datac)] H K = book_Append.code bb bo kind dataa datan datac H K := by kernel_rfl

theorem book_Append.call {bb : Nat} {bo : Nat} {kind : Int} {dataa : Option Addr} {datan : Nat} {datac : Nat} {H : Heap} {K : Value → Heap → Prop} (h : book_Append.code bb bo kind dataa datan datac H K) : CallF Tryz.prog 14 #[(.pointer (some ⟨bb, bo, none⟩)), (.int .i64 kind), (.slice dataa datan datac)] H K :=
  callF_of_eq (X := X) X_P X_wide X_bodied Tryz.func14 (book_Append.eq bb bo kind dataa datan datac H K) h

def book_Open.y1 (b1 : Nat) (b2 : Nat) (b3 : Nat) (H_8 : Heap) (R : Loop) (vs : List Value) (H_9 : Heap) (K_ : Value → Heap → Prop) : Prop :=
  ∃ y : Int, ∃ y0 : Int, ∃ y1a : Option Addr, ∃ y1n : Nat, ∃ y1c : Nat, vs = [(.int .i64 y), (.agg #[(.int .i64 y0), (.slice y1a y1n y1c)])] ∧
  H_9[H_8.size + 1]? = some (.loop R) ∧
  ∀ (b4 : Nat) (H_10 : Heap), b4 = H_9.size → H_10 = H_9.push (.cells #[(.int .i64 0), (.slice none 0 0)] 64) →
  canSet H_10 b4 0 [(.int .i64 y0), (.slice y1a y1n y1c)] ∧
  ∀ H_11 : Heap, H_11 = setAll H_10 b4 0 [(.int .i64 y0), (.slice y1a y1n y1c)] →
  H_11[H_8.size + 1]? = some (.loop R) ∧
  ∀ H_12 : Heap, H_12 = setLoop H_11 (H_8.size + 1) { R with state := .busy } →
  ∃ v : Int, cellAt H_12 b4 0 = some (.int .i64 v) ∧
  (((decide (v = 0))) = true →
  ∃ va2 : Option Addr, ∃ vn2 : Nat, ∃ vc2 : Nat, cellAt H_12 b4 1 = some (.slice va2 vn2 vc2) ∧
  canSet H_12 b2 0 [(.slice va2 vn2 vc2)] ∧
  ∀ H_13 : Heap, H_13 = setAll H_12 b2 0 [(.slice va2 vn2 vc2)] →
  canSet H_13 b2 1 [(.bool true)] ∧
  ∀ H_14 : Heap, H_14 = setAll H_13 b2 1 [(.bool true)] →
  ∃ va3 : Option Addr, ∃ vn3 : Nat, ∃ vc3 : Nat, cellAt H_14 b1 0 = some (.slice va3 vn3 vc3) ∧
  ((0 : Int) ≤ (IntKind.i64.wrap (y + 1)) ∧ (IntKind.i64.wrap (y + 1)) ≤ (vn3 : Int) ∧ (vn3 : Int) ≤ (vc3 : Int)) ∧
  canSet H_14 b3 0 [(.slice (slB va3 ((IntKind.i64.wrap (y + 1)).toNat) vc3 2) (vn3 - ((IntKind.i64.wrap (y + 1)).toNat)) (vc3 - ((IntKind.i64.wrap (y + 1)).toNat)))] ∧
  ∀ H_15 : Heap, H_15 = setAll H_14 b3 0 [(.slice (slB va3 ((IntKind.i64.wrap (y + 1)).toNat) vc3 2) (vn3 - ((IntKind.i64.wrap (y + 1)).toNat)) (vc3 - ((IntKind.i64.wrap (y + 1)).toNat)))] →
  H_15[H_8.size + 1]? = some (.loop { R with state := .busy }) ∧ K_ (.bool false) (setLoop H_15 (H_8.size + 1) { R with state := .done, pending := some (.exit 0) })) ∧
  (((decide (v = 0))) = false →
  H_12[H_8.size + 1]? = some (.loop { R with state := .busy }) ∧ K_ (.bool true) (setLoop H_12 (H_8.size + 1) R))

def book_Open.code (db : Nat) (do_ : Nat) (most : Int) (H : Heap) (K : Value → Heap → Prop) : Prop :=
  ∀ (b : Nat) (H_ : Heap), b = H.size → H_ = H.push (.cells #[(.slice none 0 0), (.bool false), (.slice none 0 0)] 35) →
  CallF Tryz.prog 19 #[(.pointer (some ⟨db, do_, none⟩)), (.int .i64 most)] H_ fun u H_1 => ∃ r : Option Addr, ∃ ra : Option Addr, ∃ rn : Nat, ∃ rc : Nat, ∃ r1 : Int, u = (.tuple #[(.pointer r), (.slice ra rn rc), (.int .i64 r1)]) ∧
  ∀ (b1 : Nat) (H_2 : Heap), b1 = H_1.size → H_2 = H_1.push (.cells #[(.slice none 0 0)] 33) →
  canSet H_2 b1 0 [(.slice ra rn rc)] ∧
  ∀ H_3 : Heap, H_3 = setAll H_2 b1 0 [(.slice ra rn rc)] →
  (((!decide (r1 = 0))) = true →
  canSet H_3 b 0 [(.slice none 0 0), (.bool false), (.slice none 0 0)] ∧
  ∀ H_4 : Heap, H_4 = setAll H_3 b 0 [(.slice none 0 0), (.bool false), (.slice none 0 0)] →
  ∃ res0a : Option Addr, ∃ res0n : Nat, ∃ res0c : Nat, ∃ res1 : Bool, ∃ res2a : Option Addr, ∃ res2n : Nat, ∃ res2c : Nat, cellsAre H_4 b 0 [(.slice res0a res0n res0c), (.bool res1), (.slice res2a res2n res2c)] ∧
  K (.tuple #[(.pointer none), (.agg #[(.slice res0a res0n res0c), (.bool res1), (.slice res2a res2n res2c)]), (.int .i64 r1)]) H_4) ∧
  (((!decide (r1 = 0))) = false →
  ∀ (b2 : Nat) (H_5 : Heap), b2 = H_3.size → H_5 = H_3.push (.cells #[(.slice none 0 0), (.bool false), (.slice none 0 0)] 35) →
  ∃ va : Option Addr, ∃ vn : Nat, ∃ vc : Nat, cellAt H_5 b1 0 = some (.slice va vn vc) ∧
  ∀ (b3 : Nat) (H_6 : Heap), b3 = H_5.size → H_6 = H_5.push (.cells #[(.slice none 0 0)] 33) →
  canSet H_6 b3 0 [(.slice va vn vc)] ∧
  ∀ H_7 : Heap, H_7 = setAll H_6 b3 0 [(.slice va vn vc)] →
  ∃ va1 : Option Addr, ∃ vn1 : Nat, ∃ vc1 : Nat, cellAt H_7 b1 0 = some (.slice va1 vn1 vc1) ∧
  CallF Tryz.prog 20 #[(.slice va1 vn1 vc1)] H_7 fun u1 H_8 => ∃ rf : FuncId, ∃ rl : List Value, u1 = (.func (.func rf) #[] ⟨rl⟩) ∧
  memN rf X.calls = true ∧
  ∀ R : Loop, R.state = .ready → R.pending = none →
  (∀ (vs : List Value) (H_9 : Heap) (K_ : Value → Heap → Prop), book_Open.y1 b1 b2 b3 H_8 R vs H_9 K_ → YieldF Tryz.prog (H_8.size + 1) vs H_9 K_) →
  CallF Tryz.prog rf ⟨(.func (.yield (H_8.size + 1)) #[] #[]) :: rl⟩ ((H_8.push (.deferred (some []))).push (.loop R)) fun u2 H_16 => ∃ (st : LoopState) (pd : Option Code), st ≠ .busy ∧ H_16[H_8.size + 1]? = some (.loop { R with state := st, pending := pd }) ∧
  ∀ H_17 : Heap, H_17 = setLoop H_16 (H_8.size + 1) { R with state := .exhausted, pending := pd } →
  ((pd = none ∧
  ∃ va4 : Option Addr, ∃ vn4 : Nat, ∃ vc4 : Nat, cellAt H_17 b3 0 = some (.slice va4 vn4 vc4) ∧
  CallF Tryz.prog 21 #[(.slice va4 vn4 vc4)] H_17 fun u3 H_18 => ∃ ra1 : Option Addr, ∃ rn1 : Nat, ∃ rc1 : Nat, u3 = (.slice ra1 rn1 rc1) ∧
  canSet H_18 b2 2 [(.slice ra1 rn1 rc1)] ∧
  ∀ H_19 : Heap, H_19 = setAll H_18 b2 2 [(.slice ra1 rn1 rc1)] →
  ∃ c0a : Option Addr, ∃ c0n : Nat, ∃ c0c : Nat, ∃ c1 : Bool, ∃ c2a : Option Addr, ∃ c2n : Nat, ∃ c2c : Nat, cellsAre H_19 b2 0 [(.slice c0a c0n c0c), (.bool c1), (.slice c2a c2n c2c)] ∧
  ∀ (b5 : Nat) (H_20 : Heap), b5 = H_19.size → H_20 = H_19.push (.cells #[(.pointer r), (.bool false), (.int .i64 0), (.int .i64 0)] 51) →
  cellsAre H_20 b2 0 [(.slice c0a c0n c0c), (.bool c1), (.slice c2a c2n c2c)] ∧
  canSet H_20 b 0 [(.slice c0a c0n c0c), (.bool c1), (.slice c2a c2n c2c)] ∧
  ∀ H_21 : Heap, H_21 = setAll H_20 b 0 [(.slice c0a c0n c0c), (.bool c1), (.slice c2a c2n c2c)] →
  H_21[H_8.size]? = some (.deferred (some [])) ∧
  ∃ res0a1 : Option Addr, ∃ res0n1 : Nat, ∃ res0c1 : Nat, ∃ res1_1 : Bool, ∃ res2a1 : Option Addr, ∃ res2n1 : Nat, ∃ res2c1 : Nat, cellsAre (H_21.setIfInBounds H_8.size (.deferred none)) b 0 [(.slice res0a1 res0n1 res0c1), (.bool res1_1), (.slice res2a1 res2n1 res2c1)] ∧
  K (.tuple #[(.pointer (some ⟨b5, 0, none⟩)), (.agg #[(.slice res0a1 res0n1 res0c1), (.bool res1_1), (.slice res2a1 res2n1 res2c1)]), (.int .i64 0)]) (H_21.setIfInBounds H_8.size (.deferred none))) ∨
  pd = (some (.exit 0)) ∧
  ∃ va5 : Option Addr, ∃ vn5 : Nat, ∃ vc5 : Nat, cellAt H_17 b3 0 = some (.slice va5 vn5 vc5) ∧
  CallF Tryz.prog 21 #[(.slice va5 vn5 vc5)] H_17 fun u4 H_22 => ∃ ra2 : Option Addr, ∃ rn2 : Nat, ∃ rc2 : Nat, u4 = (.slice ra2 rn2 rc2) ∧
  canSet H_22 b2 2 [(.slice ra2 rn2 rc2)] ∧
  ∀ H_23 : Heap, H_23 = setAll H_22 b2 2 [(.slice ra2 rn2 rc2)] →
  ∃ c0a1 : Option Addr, ∃ c0n1 : Nat, ∃ c0c1 : Nat, ∃ c1_1 : Bool, ∃ c2a1 : Option Addr, ∃ c2n1 : Nat, ∃ c2c1 : Nat, cellsAre H_23 b2 0 [(.slice c0a1 c0n1 c0c1), (.bool c1_1), (.slice c2a1 c2n1 c2c1)] ∧
  ∀ (b6 : Nat) (H_24 : Heap), b6 = H_23.size → H_24 = H_23.push (.cells #[(.pointer r), (.bool false), (.int .i64 0), (.int .i64 0)] 51) →
  cellsAre H_24 b2 0 [(.slice c0a1 c0n1 c0c1), (.bool c1_1), (.slice c2a1 c2n1 c2c1)] ∧
  canSet H_24 b 0 [(.slice c0a1 c0n1 c0c1), (.bool c1_1), (.slice c2a1 c2n1 c2c1)] ∧
  ∀ H_25 : Heap, H_25 = setAll H_24 b 0 [(.slice c0a1 c0n1 c0c1), (.bool c1_1), (.slice c2a1 c2n1 c2c1)] →
  H_25[H_8.size]? = some (.deferred (some [])) ∧
  ∃ res0a2 : Option Addr, ∃ res0n2 : Nat, ∃ res0c2 : Nat, ∃ res1_2 : Bool, ∃ res2a2 : Option Addr, ∃ res2n2 : Nat, ∃ res2c2 : Nat, cellsAre (H_25.setIfInBounds H_8.size (.deferred none)) b 0 [(.slice res0a2 res0n2 res0c2), (.bool res1_2), (.slice res2a2 res2n2 res2c2)] ∧
  K (.tuple #[(.pointer (some ⟨b6, 0, none⟩)), (.agg #[(.slice res0a2 res0n2 res0c2), (.bool res1_2), (.slice res2a2 res2n2 res2c2)]), (.int .i64 0)]) (H_25.setIfInBounds H_8.size (.deferred none))))

def book_Open.ann : Ann := (.seq .reg (.seq .reg (.seq (.seq .reg (.cond (.seq .reg .no) .no)) (.seq .reg (.seq .reg (.seq (.seq .reg (.blk (.rng [.one (.int .i64), .agg [.int .i64, .slice]] [none, (some (.exit 0))] (.seq .reg .reg) (.blk (.seq .reg (.cond (.seq .reg (.seq .reg .no)) .no)))))) (.seq .reg (.seq .reg .no))))))))

theorem book_Open.eq (db : Nat) (do_ : Nat) (most : Int) (H : Heap) (K : Value → Heap → Prop) : vcFun X Tryz.f7 book_Open.ann [(.pointer (some ⟨db, do_, none⟩)), (.int .i64 most)] H K = book_Open.code db do_ most H K := by kernel_rfl

theorem book_Open.call {db : Nat} {do_ : Nat} {most : Int} {H : Heap} {K : Value → Heap → Prop} (h : book_Open.code db do_ most H K) : CallF Tryz.prog 7 #[(.pointer (some ⟨db, do_, none⟩)), (.int .i64 most)] H K :=
  callF_of_eq (X := X) X_P X_wide X_bodied Tryz.func7 (book_Open.eq db do_ most H K) h

def great.l1 (callsa : Option Addr) (callsn : Nat) (K : Value → Heap → Prop) (Inv : Int → Heap → Prop) (mu : Int → Heap → Nat) (i : Int) (H_ : Heap) : Prop :=
  (((decide (i < (callsn : Int)))) = true →
  ((0 : Int) ≤ i ∧ i < (callsn : Int)) ∧ ∃ b o : Nat, (callsa = some ⟨b, o, none⟩) ∧
  ∃ va : Option Addr, ∃ vn : Nat, ∃ vc : Nat, cellAt H_ b (o + i.toNat * 4 + 3) = some (.slice va vn vc) ∧
  (((decide (200 < (vn : Int)))) = true →
  K (.bool true) H_) ∧
  (((decide (200 < (vn : Int)))) = false →
  Inv (IntKind.i64.wrap (i + 1)) H_ ∧ mu (IntKind.i64.wrap (i + 1)) H_ < mu i H_)) ∧
  (((decide (i < (callsn : Int)))) = false →
  K (.bool false) H_)

def great.code (callsa : Option Addr) (callsn : Nat) (callsc : Nat) (H : Heap) (K : Value → Heap → Prop) : Prop :=
  (((decide (40 < (callsn : Int)))) = true →
  K (.bool true) H) ∧
  (((decide (40 < (callsn : Int)))) = false →
  ∃ (Inv : Int → Heap → Prop) (mu : Int → Heap → Nat), Inv 0 H ∧
  ∀ (i : Int), ∀ H_ : Heap, Inv i H_ → great.l1 callsa callsn K Inv mu i H_)

def great.ann : Ann := (.seq .reg (.seq (.seq .reg (.cond (.seq .reg .no) .no)) (.seq (.seq .reg (.blk (.loop [(3, .one (.int .i64))] (.seq (.seq .reg (.cond .no .no)) (.seq (.blk (.seq .reg (.cond (.seq .reg .no) .no))) .reg))))) (.seq .reg .no))))

theorem great.eq (callsa : Option Addr) (callsn : Nat) (callsc : Nat) (H : Heap) (K : Value → Heap → Prop) : vcFun X Tryz.f5 great.ann [(.slice callsa callsn callsc)] H K = great.code callsa callsn callsc H K := by kernel_rfl

theorem great.call {callsa : Option Addr} {callsn : Nat} {callsc : Nat} {H : Heap} {K : Value → Heap → Prop} (h : great.code callsa callsn callsc H K) : CallF Tryz.prog 5 #[(.slice callsa callsn callsc)] H K :=
  callF_of_eq (X := X) X_P X_wide X_bodied Tryz.func5 (great.eq callsa callsn callsc H K) h

def alive_47.r1 (K : Value → Heap → Prop) (t0 : Bool) (H_23 : Heap) : Prop :=
  K (.bool t0) H_23

def alive_47.code  (H : Heap) (K : Value → Heap → Prop) : Prop :=
  CallF Tryz.prog 6 #[] H fun u H_ => ∃ r : Option Addr, u = (.pointer r) ∧
  ((r.isNone) = true →
  K (.bool false) H_) ∧
  ((r.isNone) = false →
  CallF Tryz.prog 7 #[(.pointer r), (.int .i64 64)] H_ fun u1 H_1 => ∃ r1 : Option Addr, ∃ r0a : Option Addr, ∃ r0n : Nat, ∃ r0c : Nat, ∃ r1_1 : Bool, ∃ r2a : Option Addr, ∃ r2n : Nat, ∃ r2c : Nat, ∃ r2 : Int, u1 = (.tuple #[(.pointer r1), (.agg #[(.slice r0a r0n r0c), (.bool r1_1), (.slice r2a r2n r2c)]), (.int .i64 r2)]) ∧
  ∀ (b : Nat) (H_2 : Heap), b = H_1.size → H_2 = H_1.push (.cells #[(.slice none 0 0), (.bool false), (.slice none 0 0)] 35) →
  canSet H_2 b 0 [(.slice r0a r0n r0c), (.bool r1_1), (.slice r2a r2n r2c)] ∧
  ∀ H_3 : Heap, H_3 = setAll H_2 b 0 [(.slice r0a r0n r0c), (.bool r1_1), (.slice r2a r2n r2c)] →
  ((((!decide (r2 = 0)) || r1.isNone) = false) → isA r1) ∧
  ∃ v : Option Addr, ((((!decide (r2 = 0)) || r1.isNone) = false) → cellAt H_3 (adrB r1) (adrO r1) = some (.pointer v)) ∧
  (((((!decide (r2 = 0)) || r1.isNone) || v.isNone)) = true →
  K (.bool false) H_3) ∧
  (((((!decide (r2 = 0)) || r1.isNone) || v.isNone)) = false →
  ∀ (b1 : Nat) (H_4 : Heap), b1 = H_3.size → H_4 = H_3.push (.cells #[(.int .u8 97)] 5) →
  RunW Tryz.prog (convert 32 32 (.slice (some ⟨b1, 0, none⟩) 1 1)) H_4 fun u2 H_5 =>
  ∃ sa : Option Addr, ∃ sn : Nat, ∃ sc : Nat, u2 = (.slice sa sn sc) ∧
  ∀ (b2 : Nat) (H_6 : Heap), b2 = H_5.size → H_6 = H_5.push (.cells #[(.slice sa sn sc)] 32) →
  CallF Tryz.prog 14 #[(.pointer r1), (.int .i64 1), (.slice (some ⟨b2, 0, none⟩) 1 1)] H_6 fun u3 H_7 => ∃ r3 : Int, ∃ r4 : Int, u3 = (.tuple #[(.int .i64 r3), (.int .i64 r4)]) ∧
  ∀ (b3 : Nat) (H_8 : Heap), b3 = H_7.size → H_8 = H_7.push (.cells #[(.int .u8 65)] 5) →
  RunW Tryz.prog (convert 32 32 (.slice (some ⟨b3, 0, none⟩) 1 1)) H_8 fun u4 H_9 =>
  ∃ sa1 : Option Addr, ∃ sn1 : Nat, ∃ sc1 : Nat, u4 = (.slice sa1 sn1 sc1) ∧
  ∀ (b4 : Nat) (H_10 : Heap), b4 = H_9.size → H_10 = H_9.push (.cells #[(.slice sa1 sn1 sc1)] 32) →
  CallF Tryz.prog 15 #[(.pointer r1), (.slice (some ⟨b4, 0, none⟩) 1 1)] H_10 fun u5 H_11 => ∃ r5 : Int, ∃ r6 : Int, u5 = (.tuple #[(.int .i64 r5), (.int .i64 r6)]) ∧
  CallF Tryz.prog 16 #[(.pointer r1)] H_11 fun u6 H_12 => ∃ r7 : Int, u6 = (.int .i64 r7) ∧
  ∀ (b5 : Nat) (H_13 : Heap), b5 = H_12.size → H_13 = H_12.push (.cells #[(.int .u8 98)] 5) →
  RunW Tryz.prog (convert 32 32 (.slice (some ⟨b5, 0, none⟩) 1 1)) H_13 fun u7 H_14 =>
  ∃ sa2 : Option Addr, ∃ sn2 : Nat, ∃ sc2 : Nat, u7 = (.slice sa2 sn2 sc2) ∧
  ∀ (b6 : Nat) (H_15 : Heap), b6 = H_14.size → H_15 = H_14.push (.cells #[(.slice sa2 sn2 sc2)] 32) →
  CallF Tryz.prog 14 #[(.pointer r1), (.int .i64 1), (.slice (some ⟨b6, 0, none⟩) 1 1)] H_15 fun u8 H_16 => ∃ r8 : Int, ∃ r9 : Int, u8 = (.tuple #[(.int .i64 r8), (.int .i64 r9)]) ∧
  NN r1 (
  ∃ v1 : Option Addr, cellAt H_16 (adrB r1) (adrO r1) = some (.pointer v1) ∧
  CallF Tryz.prog 17 #[(.pointer v1)] H_16 fun u9 H_17 => u9 = (.tuple #[]) ∧
  CallF Tryz.prog 16 #[(.pointer r1)] H_17 fun u10 H_18 => ∃ r10 : Int, u10 = (.int .i64 r10) ∧
  CallF Tryz.prog 7 #[(.pointer r), (.int .i64 64)] H_18 fun u11 H_19 => ∃ r11 : Option Addr, ∃ r0a1 : Option Addr, ∃ r0n1 : Nat, ∃ r0c1 : Nat, ∃ r1_2 : Bool, ∃ r2a1 : Option Addr, ∃ r2n1 : Nat, ∃ r2c1 : Nat, ∃ r12 : Int, u11 = (.tuple #[(.pointer r11), (.agg #[(.slice r0a1 r0n1 r0c1), (.bool r1_2), (.slice r2a1 r2n1 r2c1)]), (.int .i64 r12)]) ∧
  ∀ (b7 : Nat) (H_20 : Heap), b7 = H_19.size → H_20 = H_19.push (.cells #[(.slice none 0 0), (.bool false), (.slice none 0 0)] 35) →
  canSet H_20 b7 0 [(.slice r0a1 r0n1 r0c1), (.bool r1_2), (.slice r2a1 r2n1 r2c1)] ∧
  ∀ H_21 : Heap, H_21 = setAll H_20 b7 0 [(.slice r0a1 r0n1 r0c1), (.bool r1_2), (.slice r2a1 r2n1 r2c1)] →
  CallF Tryz.prog 14 #[(.pointer r1), (.int .i64 0), (.slice none 0 0)] H_21 fun u12 H_22 => ∃ r13 : Int, ∃ r14 : Int, u12 = (.tuple #[(.int .i64 r13), (.int .i64 r14)]) ∧
  ∃ va : Option Addr, ∃ vn : Nat, ∃ vc : Nat, cellAt H_22 b7 2 = some (.slice va vn vc) ∧
  (((!decide ((vn : Int) = 1))) = true →
  K (.bool false) H_22) ∧
  (((!decide ((vn : Int) = 1))) = false →
  ∀ Jn : Bool → Heap → Prop, (∀ (t0 : Bool), ∀ H_23 : Heap, alive_47.r1 K t0 H_23 → Jn t0 H_23) →
  ∃ v2 : Bool, ((((((((((decide (r4 = 0)) && (decide (r6 = 0))) && (decide (r7 = 21))) && (decide (r8 = 2))) && (decide (r9 = 0))) && (decide (r10 = 0))) && (decide (r12 = 0))) && (decide (r14 = 11))) = true) → cellAt H_22 b7 1 = some (.bool v2)) ∧
  ∃ va1 : Option Addr, ∃ vn1 : Nat, ∃ vc1 : Nat, (((((((((((decide (r4 = 0)) && (decide (r6 = 0))) && (decide (r7 = 21))) && (decide (r8 = 2))) && (decide (r9 = 0))) && (decide (r10 = 0))) && (decide (r12 = 0))) && (decide (r14 = 11))) && v2) = true) → cellAt H_22 b7 0 = some (.slice va1 vn1 vc1)) ∧
  (((((((((((decide (r4 = 0)) && (decide (r6 = 0))) && (decide (r7 = 21))) && (decide (r8 = 2))) && (decide (r9 = 0))) && (decide (r10 = 0))) && (decide (r12 = 0))) && (decide (r14 = 11))) && v2) = true) →
  ∀ (b8 : Nat) (H_24 : Heap), b8 = H_22.size → H_24 = H_22.push (.cells #[(.int .u8 65)] 5) →
  RunW Tryz.prog (convert 32 32 (.slice (some ⟨b8, 0, none⟩) 1 1)) H_24 fun u13 H_25 =>
  ∃ sa3 : Option Addr, ∃ sn3 : Nat, ∃ sc3 : Nat, u13 = (.slice sa3 sn3 sc3) ∧
  ∃ r15 : Bool, CallQ Tryz.prog 18 #[(.slice va1 vn1 vc1), (.slice sa3 sn3 sc3)] H_25 (.bool r15) ∧
  ∃ va2 : Option Addr, ∃ vn2 : Nat, ∃ vc2 : Nat, ((r15 = true) → cellAt H_25 b7 2 = some (.slice va2 vn2 vc2)) ∧
  ((r15 = true) → ((0 : Int) ≤ 0 ∧ 0 < (vn2 : Int))) ∧ ∃ b9 o : Nat, ((r15 = true) → (va2 = some ⟨b9, o, none⟩)) ∧
  ∃ va3 : Option Addr, ∃ vn3 : Nat, ∃ vc3 : Nat, ((r15 = true) → cellAt H_25 b9 (o + 0 * 2 + 1) = some (.slice va3 vn3 vc3)) ∧
  ((r15 = true) →
  ∀ (b10 : Nat) (H_26 : Heap), b10 = H_25.size → H_26 = H_25.push (.cells #[(.int .u8 98)] 5) →
  RunW Tryz.prog (convert 32 32 (.slice (some ⟨b10, 0, none⟩) 1 1)) H_26 fun u14 H_27 =>
  ∃ sa4 : Option Addr, ∃ sn4 : Nat, ∃ sc4 : Nat, u14 = (.slice sa4 sn4 sc4) ∧
  ∃ r16 : Bool, CallQ Tryz.prog 18 #[(.slice va3 vn3 vc3), (.slice sa4 sn4 sc4)] H_27 (.bool r16) ∧
  ((r16 = true) → isA r1) ∧
  ∃ v3 : Option Addr, ((r16 = true) → cellAt H_27 (adrB r1) (adrO r1) = some (.pointer v3)) ∧
  ∃ r17 : Int, ((r16 = true) → CallQ Tryz.prog 11 #[(.pointer v3)] H_27 (.int .i64 r17)) ∧
  (((r16 && (decide (r17 = 3))) = true) → isA r1) ∧
  ∃ v4 : Option Addr, (((r16 && (decide (r17 = 3))) = true) → cellAt H_27 (adrB r1) (adrO r1) = some (.pointer v4)) ∧
  ∃ r18 : Int, (((r16 && (decide (r17 = 3))) = true) → CallQ Tryz.prog 12 #[(.pointer v4)] H_27 (.int .i64 r18)) ∧
  ((((r16 && (decide (r17 = 3))) && (decide (r18 = 3))) = true) → isA r1) ∧
  ∃ v5 : Option Addr, ((((r16 && (decide (r17 = 3))) && (decide (r18 = 3))) = true) → cellAt H_27 (adrB r1) (adrO r1) = some (.pointer v5)) ∧
  ∃ r19 : Int, ((((r16 && (decide (r17 = 3))) && (decide (r18 = 3))) = true) → CallQ Tryz.prog 13 #[(.pointer v5)] H_27 (.int .i64 r19)) ∧
  Jn (((r16 && (decide (r17 = 3))) && (decide (r18 = 3))) && (decide (r19 = 1))) H_27) ∧
  (¬ (r15 = true) →
  ((false = true) → isA r1) ∧
  ∃ v6 : Option Addr, ((false = true) → cellAt H_25 (adrB r1) (adrO r1) = some (.pointer v6)) ∧
  ∃ r20 : Int, ((false = true) → CallQ Tryz.prog 11 #[(.pointer v6)] H_25 (.int .i64 r20)) ∧
  (((false && (decide (r20 = 3))) = true) → isA r1) ∧
  ∃ v7 : Option Addr, (((false && (decide (r20 = 3))) = true) → cellAt H_25 (adrB r1) (adrO r1) = some (.pointer v7)) ∧
  ∃ r21 : Int, (((false && (decide (r20 = 3))) = true) → CallQ Tryz.prog 12 #[(.pointer v7)] H_25 (.int .i64 r21)) ∧
  ((((false && (decide (r20 = 3))) && (decide (r21 = 3))) = true) → isA r1) ∧
  ∃ v8 : Option Addr, ((((false && (decide (r20 = 3))) && (decide (r21 = 3))) = true) → cellAt H_25 (adrB r1) (adrO r1) = some (.pointer v8)) ∧
  ∃ r22 : Int, ((((false && (decide (r20 = 3))) && (decide (r21 = 3))) = true) → CallQ Tryz.prog 13 #[(.pointer v8)] H_25 (.int .i64 r22)) ∧
  Jn (((false && (decide (r20 = 3))) && (decide (r21 = 3))) && (decide (r22 = 1))) H_25)) ∧
  (¬ ((((((((((decide (r4 = 0)) && (decide (r6 = 0))) && (decide (r7 = 21))) && (decide (r8 = 2))) && (decide (r9 = 0))) && (decide (r10 = 0))) && (decide (r12 = 0))) && (decide (r14 = 11))) && v2) = true) →
  ∃ va4 : Option Addr, ∃ vn4 : Nat, ∃ vc4 : Nat, ((false = true) → cellAt H_22 b7 2 = some (.slice va4 vn4 vc4)) ∧
  ((false = true) → ((0 : Int) ≤ 0 ∧ 0 < (vn4 : Int))) ∧ ∃ b11 o1 : Nat, ((false = true) → (va4 = some ⟨b11, o1, none⟩)) ∧
  ∃ va5 : Option Addr, ∃ vn5 : Nat, ∃ vc5 : Nat, ((false = true) → cellAt H_22 b11 (o1 + 0 * 2 + 1) = some (.slice va5 vn5 vc5)) ∧
  ((false = true) →
  ∀ (b12 : Nat) (H_28 : Heap), b12 = H_22.size → H_28 = H_22.push (.cells #[(.int .u8 98)] 5) →
  RunW Tryz.prog (convert 32 32 (.slice (some ⟨b12, 0, none⟩) 1 1)) H_28 fun u15 H_29 =>
  ∃ sa5 : Option Addr, ∃ sn5 : Nat, ∃ sc5 : Nat, u15 = (.slice sa5 sn5 sc5) ∧
  ∃ r23 : Bool, CallQ Tryz.prog 18 #[(.slice va5 vn5 vc5), (.slice sa5 sn5 sc5)] H_29 (.bool r23) ∧
  ((r23 = true) → isA r1) ∧
  ∃ v9 : Option Addr, ((r23 = true) → cellAt H_29 (adrB r1) (adrO r1) = some (.pointer v9)) ∧
  ∃ r24 : Int, ((r23 = true) → CallQ Tryz.prog 11 #[(.pointer v9)] H_29 (.int .i64 r24)) ∧
  (((r23 && (decide (r24 = 3))) = true) → isA r1) ∧
  ∃ v10 : Option Addr, (((r23 && (decide (r24 = 3))) = true) → cellAt H_29 (adrB r1) (adrO r1) = some (.pointer v10)) ∧
  ∃ r25 : Int, (((r23 && (decide (r24 = 3))) = true) → CallQ Tryz.prog 12 #[(.pointer v10)] H_29 (.int .i64 r25)) ∧
  ((((r23 && (decide (r24 = 3))) && (decide (r25 = 3))) = true) → isA r1) ∧
  ∃ v11 : Option Addr, ((((r23 && (decide (r24 = 3))) && (decide (r25 = 3))) = true) → cellAt H_29 (adrB r1) (adrO r1) = some (.pointer v11)) ∧
  ∃ r26 : Int, ((((r23 && (decide (r24 = 3))) && (decide (r25 = 3))) = true) → CallQ Tryz.prog 13 #[(.pointer v11)] H_29 (.int .i64 r26)) ∧
  Jn (((r23 && (decide (r24 = 3))) && (decide (r25 = 3))) && (decide (r26 = 1))) H_29) ∧
  (¬ (false = true) →
  ((false = true) → isA r1) ∧
  ∃ v12 : Option Addr, ((false = true) → cellAt H_22 (adrB r1) (adrO r1) = some (.pointer v12)) ∧
  ∃ r27 : Int, ((false = true) → CallQ Tryz.prog 11 #[(.pointer v12)] H_22 (.int .i64 r27)) ∧
  (((false && (decide (r27 = 3))) = true) → isA r1) ∧
  ∃ v13 : Option Addr, (((false && (decide (r27 = 3))) = true) → cellAt H_22 (adrB r1) (adrO r1) = some (.pointer v13)) ∧
  ∃ r28 : Int, (((false && (decide (r27 = 3))) = true) → CallQ Tryz.prog 12 #[(.pointer v13)] H_22 (.int .i64 r28)) ∧
  ((((false && (decide (r27 = 3))) && (decide (r28 = 3))) = true) → isA r1) ∧
  ∃ v14 : Option Addr, ((((false && (decide (r27 = 3))) && (decide (r28 = 3))) = true) → cellAt H_22 (adrB r1) (adrO r1) = some (.pointer v14)) ∧
  ∃ r29 : Int, ((((false && (decide (r27 = 3))) && (decide (r28 = 3))) = true) → CallQ Tryz.prog 13 #[(.pointer v14)] H_22 (.int .i64 r29)) ∧
  Jn (((false && (decide (r27 = 3))) && (decide (r28 = 3))) && (decide (r29 = 1))) H_22))))))

def alive_47.ann : Ann := (.seq .reg (.seq .reg (.seq (.seq .reg (.cond (.seq .reg .no) .no)) (.seq .reg (.seq (.seq .reg (.cond (.seq .reg .no) .no)) (.seq .reg (.seq .reg (.seq .reg (.seq .reg (.seq .reg (.seq .reg (.seq .reg (.seq .reg (.seq (.seq .reg (.cond (.seq .reg .no) .no)) (.seq (.regJ [(0, .one (.bool))]) .no)))))))))))))))

theorem alive_47.eq  (H : Heap) (K : Value → Heap → Prop) : vcFun X Tryz.f4 alive_47.ann [] H K = alive_47.code  H K := by kernel_rfl

theorem alive_47.call  {H : Heap} {K : Value → Heap → Prop} (h : alive_47.code  H K) : CallF Tryz.prog 4 #[] H K :=
  callF_of_eq (X := X) X_P X_wide X_bodied Tryz.func4 (alive_47.eq  H K) h

def R12_Tell.l1 (alla : Option Addr) (alln : Nat) (allc : Nat) (K : Value → Heap → Prop) (Inv : Int → Heap → Prop) (mu : Int → Heap → Nat) (i : Int) (H_ : Heap) : Prop :=
  (((decide (0 ≤ i))) = true →
  ((0 : Int) ≤ i ∧ i < (alln : Int)) ∧ ∃ b o : Nat, (alla = some ⟨b, o, none⟩) ∧
  ∃ v : Int, cellAt H_ b (o + i.toNat * 2) = some (.int .i64 v) ∧
  (((decide (v = 0))) = true →
  ((0 : Int) ≤ i ∧ i < (alln : Int)) ∧ ∃ b1 o1 : Nat, (alla = some ⟨b1, o1, none⟩) ∧
  ∃ va : Option Addr, ∃ vn : Nat, ∃ vc : Nat, cellAt H_ b1 (o1 + i.toNat * 2 + 1) = some (.slice va vn vc) ∧
  ((0 : Int) ≤ (IntKind.i64.wrap (i + 1)) ∧ (IntKind.i64.wrap (i + 1)) ≤ (alln : Int) ∧ (alln : Int) ≤ (allc : Int)) ∧
  K (.tuple #[(.slice va vn vc), (.bool true), (.slice (slB alla ((IntKind.i64.wrap (i + 1)).toNat) allc 2) (alln - ((IntKind.i64.wrap (i + 1)).toNat)) (allc - ((IntKind.i64.wrap (i + 1)).toNat)))]) H_) ∧
  (((decide (v = 0))) = false →
  Inv (IntKind.i64.wrap (i - 1)) H_ ∧ mu (IntKind.i64.wrap (i - 1)) H_ < mu i H_)) ∧
  (((decide (0 ≤ i))) = false →
  K (.tuple #[(.slice none 0 0), (.bool false), (.slice alla alln allc)]) H_)

def R12_Tell.code (alla : Option Addr) (alln : Nat) (allc : Nat) (H : Heap) (K : Value → Heap → Prop) : Prop :=
  ∃ (Inv : Int → Heap → Prop) (mu : Int → Heap → Nat), Inv (IntKind.i64.wrap ((alln : Int) - 1)) H ∧
  ∀ (i : Int), ∀ H_ : Heap, Inv i H_ → R12_Tell.l1 alla alln allc K Inv mu i H_

def R12_Tell.ann : Ann := (.seq .reg (.seq (.seq .reg (.blk (.loop [(5, .one (.int .i64))] (.seq (.seq .reg (.cond .no .no)) (.seq (.blk (.seq .reg (.cond (.seq .reg .no) .no))) .reg))))) (.seq .reg .no)))

theorem R12_Tell.eq (alla : Option Addr) (alln : Nat) (allc : Nat) (H : Heap) (K : Value → Heap → Prop) : vcFun X Tryz.f49 R12_Tell.ann [(.slice alla alln allc)] H K = R12_Tell.code alla alln allc H K := by kernel_rfl

theorem R12_Tell.call {alla : Option Addr} {alln : Nat} {allc : Nat} {H : Heap} {K : Value → Heap → Prop} (h : R12_Tell.code alla alln allc H K) : CallF Tryz.prog 49 #[(.slice alla alln allc)] H K :=
  callF_of_eq (X := X) X_P X_wide X_bodied Tryz.func49 (R12_Tell.eq alla alln allc H K) h

def R12_Trim.code (bb : Nat) (bo : Nat) (H : Heap) (K : Value → Heap → Prop) : Prop :=
  ∃ v : Int, cellAt H bb (bo + 1) = some (.int .i64 v) ∧
  (((decide (v < 0))) = true →
  K (.int .i64 19) H) ∧
  (((decide (v < 0))) = false →
  ∃ v1 : Int, cellAt H bb (bo + 1) = some (.int .i64 v1) ∧
  ∃ v2 : Option Addr, cellAt H bb bo = some (.pointer v2) ∧
  NN v2 (
  ∃ v3 : Int, cellAt H (adrB v2) ((adrO v2) + 4) = some (.int .i64 v3) ∧
  (((decide (v3 ≤ v1))) = true →
  K (.int .i64 21) H) ∧
  (((decide (v3 ≤ v1))) = false →
  ∃ v4 : Option Addr, cellAt H bb bo = some (.pointer v4) ∧
  ∃ v5 : Int, cellAt H bb (bo + 2) = some (.int .i64 v5) ∧
  CallF Tryz.prog 46 #[(.pointer v4), (.int .i64 v5)] H fun u H_ => ∃ r : Int, u = (.int .i64 r) ∧
  K (.int .i64 r) H_)))

def R12_Trim.ann : Ann := (.seq .reg (.seq (.seq .reg (.cond (.seq .reg .no) .no)) (.seq (.seq .reg (.cond (.seq .reg .no) .no)) (.seq .reg .no))))

theorem R12_Trim.eq (bb : Nat) (bo : Nat) (H : Heap) (K : Value → Heap → Prop) : vcFun X Tryz.f27 R12_Trim.ann [(.pointer (some ⟨bb, bo, none⟩))] H K = R12_Trim.code bb bo H K := by kernel_rfl

theorem R12_Trim.call {bb : Nat} {bo : Nat} {H : Heap} {K : Value → Heap → Prop} (h : R12_Trim.code bb bo H K) : CallF Tryz.prog 27 #[(.pointer (some ⟨bb, bo, none⟩))] H K :=
  callF_of_eq (X := X) X_P X_wide X_bodied Tryz.func27 (R12_Trim.eq bb bo H K) h

def R12_Save.code (bb : Nat) (bo : Nat) (statea : Option Addr) (staten : Nat) (statec : Nat) (H : Heap) (K : Value → Heap → Prop) : Prop :=
  (((decide (262144 < (staten : Int)))) = true →
  K (.tuple #[(.int .i64 (-1)), (.int .i64 17)]) H) ∧
  (((decide (262144 < (staten : Int)))) = false →
  ∃ v : Option Addr, cellAt H bb bo = some (.pointer v) ∧
  NN v (
  ∃ v1 : Int, cellAt H (adrB v) ((adrO v) + 2) = some (.int .i64 v1) ∧
  (((decide (v1 = 2147483647))) = true →
  K (.tuple #[(.int .i64 (-1)), (.int .i64 20)]) H) ∧
  (((decide (v1 = 2147483647))) = false →
  ∃ v2 : Option Addr, cellAt H bb bo = some (.pointer v2) ∧
  NN v2 (
  ∃ v3 : Int, cellAt H (adrB v2) ((adrO v2) + 2) = some (.int .i64 v3) ∧
  NN v2 (
  canSet H (adrB v2) ((adrO v2) + 2) [(.int .i64 (IntKind.i64.wrap (v3 + 1)))] ∧
  ∀ H_ : Heap, H_ = setAll H (adrB v2) ((adrO v2) + 2) [(.int .i64 (IntKind.i64.wrap (v3 + 1)))] →
  ∃ v4 : Option Addr, cellAt H_ bb bo = some (.pointer v4) ∧
  CallF Tryz.prog 45 #[(.pointer v4), (.int .i64 0), (.slice statea staten statec)] H_ fun u H_1 => ∃ r : Int, ∃ r1 : Int, u = (.tuple #[(.int .i64 r), (.int .i64 r1)]) ∧
  canSet H_1 bb (bo + 1) [(.int .i64 r)] ∧
  ∀ H_2 : Heap, H_2 = setAll H_1 bb (bo + 1) [(.int .i64 r)] →
  ∃ v5 : Option Addr, cellAt H_2 bb bo = some (.pointer v5) ∧
  NN v5 (
  ∃ v6 : Int, cellAt H_2 (adrB v5) ((adrO v5) + 2) = some (.int .i64 v6) ∧
  canSet H_2 bb (bo + 2) [(.int .i64 v6)] ∧
  ∀ H_3 : Heap, H_3 = setAll H_2 bb (bo + 2) [(.int .i64 v6)] →
  K (.tuple #[(.int .i64 r), (.int .i64 r1)]) H_3))))))

def R12_Save.ann : Ann := (.seq .reg (.seq (.seq .reg (.cond (.seq .reg .no) .no)) (.seq (.seq .reg (.cond (.seq .reg .no) .no)) (.seq .reg (.seq .reg (.seq .reg (.seq .reg (.seq .reg .no))))))))

theorem R12_Save.eq (bb : Nat) (bo : Nat) (statea : Option Addr) (staten : Nat) (statec : Nat) (H : Heap) (K : Value → Heap → Prop) : vcFun X Tryz.f26 R12_Save.ann [(.pointer (some ⟨bb, bo, none⟩)), (.slice statea staten statec)] H K = R12_Save.code bb bo statea staten statec H K := by kernel_rfl

theorem R12_Save.call {bb : Nat} {bo : Nat} {statea : Option Addr} {staten : Nat} {statec : Nat} {H : Heap} {K : Value → Heap → Prop} (h : R12_Save.code bb bo statea staten statec H K) : CallF Tryz.prog 26 #[(.pointer (some ⟨bb, bo, none⟩)), (.slice statea staten statec)] H K :=
  callF_of_eq (X := X) X_P X_wide X_bodied Tryz.func26 (R12_Save.eq bb bo statea staten statec H K) h

def R12_Append.code (bb : Nat) (bo : Nat) (kind : Int) (dataa : Option Addr) (datan : Nat) (datac : Nat) (H : Heap) (K : Value → Heap → Prop) : Prop :=
  (((decide (kind < 1))) = true →
  K (.tuple #[(.int .i64 (-1)), (.int .i64 11)]) H) ∧
  (((decide (kind < 1))) = false →
  ∃ v : Option Addr, cellAt H bb bo = some (.pointer v) ∧
  CallF Tryz.prog 45 #[(.pointer v), (.int .i64 kind), (.slice dataa datan datac)] H fun u H_ => ∃ r : Int, ∃ r1 : Int, u = (.tuple #[(.int .i64 r), (.int .i64 r1)]) ∧
  K (.tuple #[(.int .i64 r), (.int .i64 r1)]) H_)

def R12_Append.ann : Ann := (.seq .reg (.seq (.seq .reg (.cond (.seq .reg .no) .no)) (.seq .reg .no)))

theorem R12_Append.eq (bb : Nat) (bo : Nat) (kind : Int) (dataa : Option Addr) (datan : Nat) (datac : Nat) (H : Heap) (K : Value → Heap → Prop) : vcFun X Tryz.f24 R12_Append.ann [(.pointer (some ⟨bb, bo, none⟩)), (.int .i64 kind), (.slice dataa datan datac)] H K = R12_Append.code bb bo kind dataa datan datac H K := by kernel_rfl

theorem R12_Append.call {bb : Nat} {bo : Nat} {kind : Int} {dataa : Option Addr} {datan : Nat} {datac : Nat} {H : Heap} {K : Value → Heap → Prop} (h : R12_Append.code bb bo kind dataa datan datac H K) : CallF Tryz.prog 24 #[(.pointer (some ⟨bb, bo, none⟩)), (.int .i64 kind), (.slice dataa datan datac)] H K :=
  callF_of_eq (X := X) X_P X_wide X_bodied Tryz.func24 (R12_Append.eq bb bo kind dataa datan datac H K) h

def R12_Open.code (db : Nat) (do_ : Nat) (most : Int) (H : Heap) (K : Value → Heap → Prop) : Prop :=
  CallF Tryz.prog 22 #[(.pointer (some ⟨db, do_, none⟩)), (.int .i64 most)] H fun u H_ => ∃ r : Option Addr, ∃ ra : Option Addr, ∃ rn : Nat, ∃ rc : Nat, ∃ r1 : Int, u = (.tuple #[(.pointer r), (.slice ra rn rc), (.int .i64 r1)]) ∧
  (((!decide (r1 = 0))) = true →
  K (.tuple #[(.pointer none), (.slice none 0 0), (.int .i64 r1)]) H_) ∧
  (((!decide (r1 = 0))) = false →
  ∀ (b : Nat) (H_1 : Heap), b = H_.size → H_1 = H_.push (.cells #[(.pointer r), (.int .i64 (-1)), (.int .i64 0)] 56) →
  K (.tuple #[(.pointer (some ⟨b, 0, none⟩)), (.slice ra rn rc), (.int .i64 0)]) H_1)

def R12_Open.ann : Ann := (.seq .reg (.seq .reg (.seq (.seq .reg (.cond (.seq .reg .no) .no)) (.seq .reg .no))))

theorem R12_Open.eq (db : Nat) (do_ : Nat) (most : Int) (H : Heap) (K : Value → Heap → Prop) : vcFun X Tryz.f8 R12_Open.ann [(.pointer (some ⟨db, do_, none⟩)), (.int .i64 most)] H K = R12_Open.code db do_ most H K := by kernel_rfl

theorem R12_Open.call {db : Nat} {do_ : Nat} {most : Int} {H : Heap} {K : Value → Heap → Prop} (h : R12_Open.code db do_ most H K) : CallF Tryz.prog 8 #[(.pointer (some ⟨db, do_, none⟩)), (.int .i64 most)] H K :=
  callF_of_eq (X := X) X_P X_wide X_bodied Tryz.func8 (R12_Open.eq db do_ most H K) h

def same.r1 (K : Value → Heap → Prop) (t4 : Bool) (H_1 : Heap) : Prop :=
  K (.bool t4) H_1

def same.code (x0a : Option Addr) (x0n : Nat) (x0c : Nat) (x1 : Bool) (x2a : Option Addr) (x2n : Nat) (x2c : Nat) (alla : Option Addr) (alln : Nat) (allc : Nat) (H : Heap) (K : Value → Heap → Prop) : Prop :=
  ∀ (b : Nat) (H_ : Heap), b = H.size → H_ = H.push (.cells #[(.slice x0a x0n x0c), (.bool x1), (.slice x2a x2n x2c)] 35) →
  ∃ ra : Option Addr, ∃ rn : Nat, ∃ rc : Nat, ∃ r : Bool, ∃ ra1 : Option Addr, ∃ rn1 : Nat, ∃ rc1 : Nat, CallQ Tryz.prog 49 #[(.slice alla alln allc)] H_ (.tuple #[(.slice ra rn rc), (.bool r), (.slice ra1 rn1 rc1)]) ∧
  ∀ Jn : Bool → Heap → Prop, (∀ (t4 : Bool), ∀ H_1 : Heap, same.r1 K t4 H_1 → Jn t4 H_1) →
  ∃ v : Bool, cellAt H_ b 1 = some (.bool v) ∧
  ∃ va : Option Addr, ∃ vn : Nat, ∃ vc : Nat, (((v == r) = true) → cellAt H_ b 0 = some (.slice va vn vc)) ∧
  ∃ r1 : Bool, (((v == r) = true) → CallQ Tryz.prog 18 #[(.slice va vn vc), (.slice ra rn rc)] H_ (.bool r1)) ∧
  ∃ va1 : Option Addr, ∃ vn1 : Nat, ∃ vc1 : Nat, ((((v == r) && r1) = true) → cellAt H_ b 2 = some (.slice va1 vn1 vc1)) ∧
  ((((v == r) && r1) = true) →
  CallF Tryz.prog 51 #[(.slice va1 vn1 vc1)] H_ fun u H_2 => ∃ ra2 : Option Addr, ∃ rn2 : Nat, ∃ rc2 : Nat, u = (.slice ra2 rn2 rc2) ∧
  ∃ r2 : Bool, CallQ Tryz.prog 50 #[(.slice ra2 rn2 rc2), (.slice ra1 rn1 rc1)] H_2 (.bool r2) ∧
  Jn r2 H_2) ∧
  (¬ (((v == r) && r1) = true) →
  Jn false H_)

def same.ann : Ann := (.seq .reg (.seq .reg (.seq (.regJ [(4, .one (.bool))]) .no)))

theorem same.eq (x0a : Option Addr) (x0n : Nat) (x0c : Nat) (x1 : Bool) (x2a : Option Addr) (x2n : Nat) (x2c : Nat) (alla : Option Addr) (alln : Nat) (allc : Nat) (H : Heap) (K : Value → Heap → Prop) : vcFun X Tryz.f30 same.ann [(.agg #[(.slice x0a x0n x0c), (.bool x1), (.slice x2a x2n x2c)]), (.slice alla alln allc)] H K = same.code x0a x0n x0c x1 x2a x2n x2c alla alln allc H K := by kernel_rfl

theorem same.call {x0a : Option Addr} {x0n : Nat} {x0c : Nat} {x1 : Bool} {x2a : Option Addr} {x2n : Nat} {x2c : Nat} {alla : Option Addr} {alln : Nat} {allc : Nat} {H : Heap} {K : Value → Heap → Prop} (h : same.code x0a x0n x0c x1 x2a x2n x2c alla alln allc H K) : CallF Tryz.prog 30 #[(.agg #[(.slice x0a x0n x0c), (.bool x1), (.slice x2a x2n x2c)]), (.slice alla alln allc)] H K :=
  callF_of_eq (X := X) X_P X_wide X_bodied Tryz.func30 (same.eq x0a x0n x0c x1 x2a x2n x2c alla alln allc H K) h

def told12.r1 (bb : Nat) (bo : Nat) (rb : Nat) (ro : Nat) (K : Value → Heap → Prop) (H_6 : Heap) : Prop :=
  K (.tuple #[(.pointer (some ⟨bb, bo, none⟩)), (.pointer (some ⟨rb, ro, none⟩)), (.bool true)]) H_6

def told12.r2 (K : Value → Heap → Prop) (t12 : Option Addr) (t13 : Option Addr) (t14 : Bool) (H_23 : Heap) : Prop :=
  K (.tuple #[(.pointer t12), (.pointer t13), (.bool t14)]) H_23

def told12.code (db : Nat) (do_ : Nat) (pb : Nat) (po : Nat) (bb : Nat) (bo : Nat) (rb : Nat) (ro : Nat) (most : Int) (c0 : Int) (c1 : Int) (c2 : Int) (c3a : Option Addr) (c3n : Nat) (c3c : Nat) (H : Heap) (K : Value → Heap → Prop) : Prop :=
  ∀ (b : Nat) (H_ : Heap), b = H.size → H_ = H.push (.cells #[(.int .i64 c0), (.int .i64 c1), (.int .i64 c2), (.slice c3a c3n c3c)] 46) →
  ∃ va : Option Addr, ∃ vn : Nat, ∃ vc : Nat, cellAt H_ b 3 = some (.slice va vn vc) ∧
  ((2 : Int) ≠ 0) ∧
  ∃ v : Int, cellAt H_ b 0 = some (.int .i64 v) ∧
  (((decide (v = 0))) = true →
  ∃ v1 : Int, cellAt H_ b 1 = some (.int .i64 v1) ∧
  ∃ va1 : Option Addr, ∃ vn1 : Nat, ∃ vc1 : Nat, cellAt H_ b 3 = some (.slice va1 vn1 vc1) ∧
  ((0 : Int) ≤ 0 ∧ (0 : Int) ≤ (IntKind.i64.wrap (Int.tdiv (vn : Int) 2)) ∧ (IntKind.i64.wrap (Int.tdiv (vn : Int) 2)) ≤ (vc1 : Int)) ∧
  ∃ va2 : Option Addr, ∃ vn2 : Nat, ∃ vc2 : Nat, cellAt H_ b 3 = some (.slice va2 vn2 vc2) ∧
  ((0 : Int) ≤ (IntKind.i64.wrap (Int.tdiv (vn : Int) 2)) ∧ (IntKind.i64.wrap (Int.tdiv (vn : Int) 2)) ≤ (vn2 : Int) ∧ (vn2 : Int) ≤ (vc2 : Int)) ∧
  CallF Tryz.prog 23 #[(.slice (slB va1 0 vc1 1) ((IntKind.i64.wrap (Int.tdiv (vn : Int) 2)).toNat) vc1)] H_ fun u H_1 => ∃ ra : Option Addr, ∃ rn : Nat, ∃ rc : Nat, u = (.slice ra rn rc) ∧
  cellAt H_1 b 3 = some (.slice va2 vn2 vc2) ∧
  cellAt H_1 b 1 = some (.int .i64 v1) ∧
  CallF Tryz.prog 23 #[(.slice (slB va2 ((IntKind.i64.wrap (Int.tdiv (vn : Int) 2)).toNat) vc2 1) (vn2 - ((IntKind.i64.wrap (Int.tdiv (vn : Int) 2)).toNat)) (vc2 - ((IntKind.i64.wrap (Int.tdiv (vn : Int) 2)).toNat)))] H_1 fun u1 H_2 => ∃ ra1 : Option Addr, ∃ rn1 : Nat, ∃ rc1 : Nat, u1 = (.slice ra1 rn1 rc1) ∧
  cellAt H_2 b 1 = some (.int .i64 v1) ∧
  ∀ (b1 : Nat) (H_3 : Heap), b1 = H_2.size → H_3 = H_2.push (.cells #[(.slice ra rn rc), (.slice ra1 rn1 rc1)] 32) →
  cellAt H_3 b 1 = some (.int .i64 v1) ∧
  CallF Tryz.prog 14 #[(.pointer (some ⟨bb, bo, none⟩)), (.int .i64 v1), (.slice (some ⟨b1, 0, none⟩) 2 2)] H_3 fun u2 H_4 => ∃ r : Int, ∃ r1 : Int, u2 = (.tuple #[(.int .i64 r), (.int .i64 r1)]) ∧
  ∃ v2 : Int, cellAt H_4 b 1 = some (.int .i64 v2) ∧
  ∃ va3 : Option Addr, ∃ vn3 : Nat, ∃ vc3 : Nat, cellAt H_4 b 3 = some (.slice va3 vn3 vc3) ∧
  CallF Tryz.prog 24 #[(.pointer (some ⟨rb, ro, none⟩)), (.int .i64 v2), (.slice va3 vn3 vc3)] H_4 fun u3 H_5 => ∃ r2 : Int, ∃ r3 : Int, u3 = (.tuple #[(.int .i64 r2), (.int .i64 r3)]) ∧
  K (.tuple #[(.pointer (some ⟨bb, bo, none⟩)), (.pointer (some ⟨rb, ro, none⟩)), (.bool ((decide (r = r2)) && (decide (r1 = r3))))]) H_5) ∧
  (((decide (v = 0))) = false →
  ∀ Jn : Heap → Prop, (∀ H_6 : Heap, told12.r1 bb bo rb ro K H_6 → Jn H_6) →
  (((decide (v = 1))) = true →
  ∃ v3 : Option Addr, cellAt H_ bb bo = some (.pointer v3) ∧
  CallF Tryz.prog 17 #[(.pointer v3)] H_ fun u4 H_7 => u4 = (.tuple #[]) ∧
  CallF Tryz.prog 25 #[(.pointer (some ⟨pb, po, none⟩))] H_7 fun u5 H_8 => u5 = (.tuple #[]) ∧
  ∃ v4 : Option Addr, cellAt H_8 rb ro = some (.pointer v4) ∧
  ∃ v5 : Option Addr, cellAt H_8 rb ro = some (.pointer v5) ∧
  NN v5 (
  ∃ v6 : Int, cellAt H_8 (adrB v5) ((adrO v5) + 3) = some (.int .i64 v6) ∧
  NN v4 (
  canSet H_8 (adrB v4) ((adrO v4) + 4) [(.int .i64 v6)] ∧
  ∀ H_9 : Heap, H_9 = setAll H_8 (adrB v4) ((adrO v4) + 4) [(.int .i64 v6)] →
  Jn H_9))) ∧
  (((decide (v = 1))) = false →
  (((decide (v = 2))) = true →
  ∃ va4 : Option Addr, ∃ vn4 : Nat, ∃ vc4 : Nat, cellAt H_ b 3 = some (.slice va4 vn4 vc4) ∧
  ((0 : Int) ≤ 0 ∧ (0 : Int) ≤ (IntKind.i64.wrap (Int.tdiv (vn : Int) 2)) ∧ (IntKind.i64.wrap (Int.tdiv (vn : Int) 2)) ≤ (vc4 : Int)) ∧
  ∃ va5 : Option Addr, ∃ vn5 : Nat, ∃ vc5 : Nat, cellAt H_ b 3 = some (.slice va5 vn5 vc5) ∧
  ((0 : Int) ≤ (IntKind.i64.wrap (Int.tdiv (vn : Int) 2)) ∧ (IntKind.i64.wrap (Int.tdiv (vn : Int) 2)) ≤ (vn5 : Int) ∧ (vn5 : Int) ≤ (vc5 : Int)) ∧
  CallF Tryz.prog 23 #[(.slice (slB va4 0 vc4 1) ((IntKind.i64.wrap (Int.tdiv (vn : Int) 2)).toNat) vc4)] H_ fun u6 H_10 => ∃ ra2 : Option Addr, ∃ rn2 : Nat, ∃ rc2 : Nat, u6 = (.slice ra2 rn2 rc2) ∧
  cellAt H_10 b 3 = some (.slice va5 vn5 vc5) ∧
  CallF Tryz.prog 23 #[(.slice (slB va5 ((IntKind.i64.wrap (Int.tdiv (vn : Int) 2)).toNat) vc5 1) (vn5 - ((IntKind.i64.wrap (Int.tdiv (vn : Int) 2)).toNat)) (vc5 - ((IntKind.i64.wrap (Int.tdiv (vn : Int) 2)).toNat)))] H_10 fun u7 H_11 => ∃ ra3 : Option Addr, ∃ rn3 : Nat, ∃ rc3 : Nat, u7 = (.slice ra3 rn3 rc3) ∧
  ∀ (b2 : Nat) (H_12 : Heap), b2 = H_11.size → H_12 = H_11.push (.cells #[(.slice ra2 rn2 rc2), (.slice ra3 rn3 rc3)] 32) →
  CallF Tryz.prog 15 #[(.pointer (some ⟨bb, bo, none⟩)), (.slice (some ⟨b2, 0, none⟩) 2 2)] H_12 fun u8 H_13 => ∃ r4 : Int, ∃ r5 : Int, u8 = (.tuple #[(.int .i64 r4), (.int .i64 r5)]) ∧
  ∃ va6 : Option Addr, ∃ vn6 : Nat, ∃ vc6 : Nat, cellAt H_13 b 3 = some (.slice va6 vn6 vc6) ∧
  CallF Tryz.prog 26 #[(.pointer (some ⟨rb, ro, none⟩)), (.slice va6 vn6 vc6)] H_13 fun u9 H_14 => ∃ r6 : Int, ∃ r7 : Int, u9 = (.tuple #[(.int .i64 r6), (.int .i64 r7)]) ∧
  K (.tuple #[(.pointer (some ⟨bb, bo, none⟩)), (.pointer (some ⟨rb, ro, none⟩)), (.bool ((decide (r4 = r6)) && (decide (r5 = r7))))]) H_14) ∧
  (((decide (v = 2))) = false →
  (((decide (v = 3))) = true →
  CallF Tryz.prog 16 #[(.pointer (some ⟨bb, bo, none⟩))] H_ fun u10 H_15 => ∃ r8 : Int, u10 = (.int .i64 r8) ∧
  CallF Tryz.prog 27 #[(.pointer (some ⟨rb, ro, none⟩))] H_15 fun u11 H_16 => ∃ r9 : Int, u11 = (.int .i64 r9) ∧
  K (.tuple #[(.pointer (some ⟨bb, bo, none⟩)), (.pointer (some ⟨rb, ro, none⟩)), (.bool (decide (r8 = r9)))]) H_16) ∧
  (((decide (v = 3))) = false →
  (((decide (v = 4))) = true →
  ∃ v7 : Int, cellAt H_ b 2 = some (.int .i64 v7) ∧
  CallF Tryz.prog 28 #[(.pointer (some ⟨db, do_, none⟩)), (.int .i64 v7)] H_ fun u12 H_17 => u12 = (.tuple #[]) ∧
  ∃ v8 : Int, cellAt H_17 b 2 = some (.int .i64 v8) ∧
  CallF Tryz.prog 29 #[(.pointer (some ⟨pb, po, none⟩)), (.int .i64 v8)] H_17 fun u13 H_18 => u13 = (.tuple #[]) ∧
  CallF Tryz.prog 7 #[(.pointer (some ⟨db, do_, none⟩)), (.int .i64 most)] H_18 fun u14 H_19 => ∃ r10 : Option Addr, ∃ r0a : Option Addr, ∃ r0n : Nat, ∃ r0c : Nat, ∃ r1_1 : Bool, ∃ r2a : Option Addr, ∃ r2n : Nat, ∃ r2c : Nat, ∃ r11 : Int, u14 = (.tuple #[(.pointer r10), (.agg #[(.slice r0a r0n r0c), (.bool r1_1), (.slice r2a r2n r2c)]), (.int .i64 r11)]) ∧
  ∀ (b3 : Nat) (H_20 : Heap), b3 = H_19.size → H_20 = H_19.push (.cells #[(.slice none 0 0), (.bool false), (.slice none 0 0)] 35) →
  canSet H_20 b3 0 [(.slice r0a r0n r0c), (.bool r1_1), (.slice r2a r2n r2c)] ∧
  ∀ H_21 : Heap, H_21 = setAll H_20 b3 0 [(.slice r0a r0n r0c), (.bool r1_1), (.slice r2a r2n r2c)] →
  CallF Tryz.prog 8 #[(.pointer (some ⟨pb, po, none⟩)), (.int .i64 most)] H_21 fun u15 H_22 => ∃ r12 : Option Addr, ∃ ra4 : Option Addr, ∃ rn4 : Nat, ∃ rc4 : Nat, ∃ r13 : Int, u15 = (.tuple #[(.pointer r12), (.slice ra4 rn4 rc4), (.int .i64 r13)]) ∧
  ∀ Jn1 : (Option Addr) → (Option Addr) → Bool → Heap → Prop, (∀ (t12 : Option Addr) (t13 : Option Addr) (t14 : Bool), ∀ H_23 : Heap, told12.r2 K t12 t13 t14 H_23 → Jn1 t12 t13 t14 H_23) →
  (((((decide (r11 = r13)) && (!r10.isNone)) && (!r12.isNone)) = true) → isA r10) ∧
  ∃ v9 : Option Addr, (((((decide (r11 = r13)) && (!r10.isNone)) && (!r12.isNone)) = true) → cellAt H_22 (adrB r10) (adrO r10) = some (.pointer v9)) ∧
  ∃ c0a : Option Addr, ∃ c0n : Nat, ∃ c0c : Nat, ∃ c1_1 : Bool, ∃ c2a : Option Addr, ∃ c2n : Nat, ∃ c2c : Nat, ((((((decide (r11 = r13)) && (!r10.isNone)) && (!r12.isNone)) && (!v9.isNone)) = true) → cellsAre H_22 b3 0 [(.slice c0a c0n c0c), (.bool c1_1), (.slice c2a c2n c2c)]) ∧
  ((((((decide (r11 = r13)) && (!r10.isNone)) && (!r12.isNone)) && (!v9.isNone)) = true) →
  CallF Tryz.prog 30 #[(.agg #[(.slice c0a c0n c0c), (.bool c1_1), (.slice c2a c2n c2c)]), (.slice ra4 rn4 rc4)] H_22 fun u16 H_24 => ∃ r14 : Bool, u16 = (.bool r14) ∧
  Jn1 r10 r12 r14 H_24) ∧
  (¬ (((((decide (r11 = r13)) && (!r10.isNone)) && (!r12.isNone)) && (!v9.isNone)) = true) →
  Jn1 r10 r12 false H_22)) ∧
  (((decide (v = 4))) = false →
  Jn H_)))))

def told12.ann : Ann := (.seq .reg (.seq .reg (.seq (.seq .reg (.blk (.seq .reg (.cond (.seq .reg (.seq .reg (.seq .reg .no))) (.seq .reg (.condJ [] (.seq .reg (.seq .reg .reg)) (.seq .reg (.cond (.seq .reg (.seq .reg (.seq .reg .no))) (.seq .reg (.cond (.seq .reg .no) (.seq .reg (.cond (.seq .reg (.seq .reg (.seq .reg (.seq .reg (.seq (.regJ [(12, .one (.ptr)), (13, .one (.ptr)), (14, .one (.bool))]) .no))))) .no)))))))))))) (.seq .reg .no))))

theorem told12.eq (db : Nat) (do_ : Nat) (pb : Nat) (po : Nat) (bb : Nat) (bo : Nat) (rb : Nat) (ro : Nat) (most : Int) (c0 : Int) (c1 : Int) (c2 : Int) (c3a : Option Addr) (c3n : Nat) (c3c : Nat) (H : Heap) (K : Value → Heap → Prop) : vcFun X Tryz.f9 told12.ann [(.pointer (some ⟨db, do_, none⟩)), (.pointer (some ⟨pb, po, none⟩)), (.pointer (some ⟨bb, bo, none⟩)), (.pointer (some ⟨rb, ro, none⟩)), (.int .i64 most), (.agg #[(.int .i64 c0), (.int .i64 c1), (.int .i64 c2), (.slice c3a c3n c3c)])] H K = told12.code db do_ pb po bb bo rb ro most c0 c1 c2 c3a c3n c3c H K := by kernel_rfl

theorem told12.call {db : Nat} {do_ : Nat} {pb : Nat} {po : Nat} {bb : Nat} {bo : Nat} {rb : Nat} {ro : Nat} {most : Int} {c0 : Int} {c1 : Int} {c2 : Int} {c3a : Option Addr} {c3n : Nat} {c3c : Nat} {H : Heap} {K : Value → Heap → Prop} (h : told12.code db do_ pb po bb bo rb ro most c0 c1 c2 c3a c3n c3c H K) : CallF Tryz.prog 9 #[(.pointer (some ⟨db, do_, none⟩)), (.pointer (some ⟨pb, po, none⟩)), (.pointer (some ⟨bb, bo, none⟩)), (.pointer (some ⟨rb, ro, none⟩)), (.int .i64 most), (.agg #[(.int .i64 c0), (.int .i64 c1), (.int .i64 c2), (.slice c3a c3n c3c)])] H K :=
  callF_of_eq (X := X) X_P X_wide X_bodied Tryz.func9 (told12.eq db do_ pb po bb bo rb ro most c0 c1 c2 c3a c3n c3c H K) h

def BookCalls.r1 (K : Value → Heap → Prop) (Inv : (Option Addr) → (Option Addr) → Int → Heap → Prop) (mu : (Option Addr) → (Option Addr) → Int → Heap → Nat) (b2 : Option Addr) (r7 : Option Addr) (i : Int) (H_7 : Heap) (r8 : Option Addr) (r9 : Option Addr) (t142 : Bool) (H_9 : Heap) : Prop :=
  ((t142) = true →
  K (.bool false) H_9) ∧
  ((t142) = false →
  Inv r8 r9 (IntKind.i64.wrap (i + 1)) H_9 ∧ mu r8 r9 (IntKind.i64.wrap (i + 1)) H_9 < mu b2 r7 i H_7)

def BookCalls.l2 (most : Int) (callsa : Option Addr) (callsn : Nat) (K : Value → Heap → Prop) (r1 : Bool) (r2 : Option Addr) (b : Nat) (Inv : (Option Addr) → (Option Addr) → Int → Heap → Prop) (mu : (Option Addr) → (Option Addr) → Int → Heap → Nat) (b2 : Option Addr) (r7 : Option Addr) (i : Int) (H_7 : Heap) : Prop :=
  (((decide (i < (callsn : Int)))) = true →
  ((0 : Int) ≤ i ∧ i < (callsn : Int)) ∧ ∃ b3 o : Nat, (callsa = some ⟨b3, o, none⟩) ∧
  ∃ c0 : Int, ∃ c1 : Int, ∃ c2 : Int, ∃ c3a : Option Addr, ∃ c3n : Nat, ∃ c3c : Nat, cellsAre H_7 b3 (o + i.toNat * 4) [(.int .i64 c0), (.int .i64 c1), (.int .i64 c2), (.slice c3a c3n c3c)] ∧
  CallF Tryz.prog 9 #[(.pointer r2), (.pointer (some ⟨b, 0, none⟩)), (.pointer b2), (.pointer r7), (.int .i64 most), (.agg #[(.int .i64 c0), (.int .i64 c1), (.int .i64 c2), (.slice c3a c3n c3c)])] H_7 fun u4 H_8 => ∃ r8 : Option Addr, ∃ r9 : Option Addr, ∃ r10 : Bool, u4 = (.tuple #[(.pointer r8), (.pointer r9), (.bool r10)]) ∧
  ∀ Jn : Bool → Heap → Prop, (∀ (t142 : Bool), ∀ H_9 : Heap, BookCalls.r1 K Inv mu b2 r7 i H_7 r8 r9 t142 H_9 → Jn t142 H_9) →
  (((!r10) = false) →
  CallF Tryz.prog 10 #[(.pointer r2), (.pointer (some ⟨b, 0, none⟩))] H_8 fun u5 H_10 => ∃ r11 : Bool, u5 = (.bool r11) ∧
  (((!r11) = false) → isA r8) ∧
  ∃ v1 : Option Addr, (((!r11) = false) → cellAt H_10 (adrB r8) (adrO r8) = some (.pointer v1)) ∧
  ∃ r12 : Int, (((!r11) = false) → CallQ Tryz.prog 11 #[(.pointer v1)] H_10 (.int .i64 r12)) ∧
  (((!r11) = false) → isA r9) ∧
  ∃ v2 : Option Addr, (((!r11) = false) → cellAt H_10 (adrB r9) (adrO r9) = some (.pointer v2)) ∧
  (((!r11) = false) → isA v2) ∧
  ∃ v3 : Int, (((!r11) = false) → cellAt H_10 (adrB v2) ((adrO v2) + 3) = some (.int .i64 v3)) ∧
  ((((!r11) || (!decide (r12 = v3))) = false) → isA r8) ∧
  ∃ v4 : Option Addr, ((((!r11) || (!decide (r12 = v3))) = false) → cellAt H_10 (adrB r8) (adrO r8) = some (.pointer v4)) ∧
  ∃ r13 : Int, ((((!r11) || (!decide (r12 = v3))) = false) → CallQ Tryz.prog 12 #[(.pointer v4)] H_10 (.int .i64 r13)) ∧
  ((((!r11) || (!decide (r12 = v3))) = false) → isA r9) ∧
  ∃ v5 : Option Addr, ((((!r11) || (!decide (r12 = v3))) = false) → cellAt H_10 (adrB r9) (adrO r9) = some (.pointer v5)) ∧
  ((((!r11) || (!decide (r12 = v3))) = false) → isA v5) ∧
  ∃ v6 : Int, ((((!r11) || (!decide (r12 = v3))) = false) → cellAt H_10 (adrB v5) ((adrO v5) + 4) = some (.int .i64 v6)) ∧
  (((((!r11) || (!decide (r12 = v3))) || (!decide (r13 = v6))) = false) → isA r8) ∧
  ∃ v7 : Option Addr, (((((!r11) || (!decide (r12 = v3))) || (!decide (r13 = v6))) = false) → cellAt H_10 (adrB r8) (adrO r8) = some (.pointer v7)) ∧
  ∃ r14 : Int, (((((!r11) || (!decide (r12 = v3))) || (!decide (r13 = v6))) = false) → CallQ Tryz.prog 13 #[(.pointer v7)] H_10 (.int .i64 r14)) ∧
  (((((!r11) || (!decide (r12 = v3))) || (!decide (r13 = v6))) = false) → isA r9) ∧
  ∃ v8 : Option Addr, (((((!r11) || (!decide (r12 = v3))) || (!decide (r13 = v6))) = false) → cellAt H_10 (adrB r9) (adrO r9) = some (.pointer v8)) ∧
  (((((!r11) || (!decide (r12 = v3))) || (!decide (r13 = v6))) = false) → isA v8) ∧
  ∃ v9 : Int, (((((!r11) || (!decide (r12 = v3))) || (!decide (r13 = v6))) = false) → cellAt H_10 (adrB v8) ((adrO v8) + 2) = some (.int .i64 v9)) ∧
  Jn ((((!r11) || (!decide (r12 = v3))) || (!decide (r13 = v6))) || (!decide (r14 = v9))) H_10) ∧
  (¬ ((!r10) = false) →
  ((true = false) → isA r8) ∧
  ∃ v10 : Option Addr, ((true = false) → cellAt H_8 (adrB r8) (adrO r8) = some (.pointer v10)) ∧
  ∃ r15 : Int, ((true = false) → CallQ Tryz.prog 11 #[(.pointer v10)] H_8 (.int .i64 r15)) ∧
  ((true = false) → isA r9) ∧
  ∃ v11 : Option Addr, ((true = false) → cellAt H_8 (adrB r9) (adrO r9) = some (.pointer v11)) ∧
  ((true = false) → isA v11) ∧
  ∃ v12 : Int, ((true = false) → cellAt H_8 (adrB v11) ((adrO v11) + 3) = some (.int .i64 v12)) ∧
  (((true || (!decide (r15 = v12))) = false) → isA r8) ∧
  ∃ v13 : Option Addr, (((true || (!decide (r15 = v12))) = false) → cellAt H_8 (adrB r8) (adrO r8) = some (.pointer v13)) ∧
  ∃ r16 : Int, (((true || (!decide (r15 = v12))) = false) → CallQ Tryz.prog 12 #[(.pointer v13)] H_8 (.int .i64 r16)) ∧
  (((true || (!decide (r15 = v12))) = false) → isA r9) ∧
  ∃ v14 : Option Addr, (((true || (!decide (r15 = v12))) = false) → cellAt H_8 (adrB r9) (adrO r9) = some (.pointer v14)) ∧
  (((true || (!decide (r15 = v12))) = false) → isA v14) ∧
  ∃ v15 : Int, (((true || (!decide (r15 = v12))) = false) → cellAt H_8 (adrB v14) ((adrO v14) + 4) = some (.int .i64 v15)) ∧
  ((((true || (!decide (r15 = v12))) || (!decide (r16 = v15))) = false) → isA r8) ∧
  ∃ v16 : Option Addr, ((((true || (!decide (r15 = v12))) || (!decide (r16 = v15))) = false) → cellAt H_8 (adrB r8) (adrO r8) = some (.pointer v16)) ∧
  ∃ r17 : Int, ((((true || (!decide (r15 = v12))) || (!decide (r16 = v15))) = false) → CallQ Tryz.prog 13 #[(.pointer v16)] H_8 (.int .i64 r17)) ∧
  ((((true || (!decide (r15 = v12))) || (!decide (r16 = v15))) = false) → isA r9) ∧
  ∃ v17 : Option Addr, ((((true || (!decide (r15 = v12))) || (!decide (r16 = v15))) = false) → cellAt H_8 (adrB r9) (adrO r9) = some (.pointer v17)) ∧
  ((((true || (!decide (r15 = v12))) || (!decide (r16 = v15))) = false) → isA v17) ∧
  ∃ v18 : Int, ((((true || (!decide (r15 = v12))) || (!decide (r16 = v15))) = false) → cellAt H_8 (adrB v17) ((adrO v17) + 2) = some (.int .i64 v18)) ∧
  Jn (((true || (!decide (r15 = v12))) || (!decide (r16 = v15))) || (!decide (r17 = v18))) H_8)) ∧
  (((decide (i < (callsn : Int)))) = false →
  K (.bool true) H_7)

def BookCalls.code (most : Int) (callsa : Option Addr) (callsn : Nat) (callsc : Nat) (H : Heap) (K : Value → Heap → Prop) : Prop :=
  CallF Tryz.prog 4 #[] H fun u H_ => ∃ r : Bool, u = (.bool r) ∧
  (((!r)) = true →
  K (.bool false) H_) ∧
  (((!r)) = false →
  ∃ r1 : Bool, CallQ Tryz.prog 5 #[(.slice callsa callsn callsc)] H_ (.bool r1) ∧
  ((r1) = true →
  K (.bool true) H_) ∧
  ((r1) = false →
  CallF Tryz.prog 6 #[] H_ fun u1 H_1 => ∃ r2 : Option Addr, u1 = (.pointer r2) ∧
  ∀ (b : Nat) (H_2 : Heap), b = H_1.size → H_2 = H_1.push (.cells #[(.slice none 0 0), (.int .i64 0)] 30) →
  ((r2.isNone) = true →
  K (.bool false) H_2) ∧
  ((r2.isNone) = false →
  CallF Tryz.prog 7 #[(.pointer r2), (.int .i64 most)] H_2 fun u2 H_3 => ∃ r3 : Option Addr, ∃ r0a : Option Addr, ∃ r0n : Nat, ∃ r0c : Nat, ∃ r1_1 : Bool, ∃ r2a : Option Addr, ∃ r2n : Nat, ∃ r2c : Nat, ∃ r4 : Int, u2 = (.tuple #[(.pointer r3), (.agg #[(.slice r0a r0n r0c), (.bool r1_1), (.slice r2a r2n r2c)]), (.int .i64 r4)]) ∧
  ∀ (b1 : Nat) (H_4 : Heap), b1 = H_3.size → H_4 = H_3.push (.cells #[(.slice none 0 0), (.bool false), (.slice none 0 0)] 35) →
  canSet H_4 b1 0 [(.slice r0a r0n r0c), (.bool r1_1), (.slice r2a r2n r2c)] ∧
  ∀ H_5 : Heap, H_5 = setAll H_4 b1 0 [(.slice r0a r0n r0c), (.bool r1_1), (.slice r2a r2n r2c)] →
  CallF Tryz.prog 8 #[(.pointer (some ⟨b, 0, none⟩)), (.int .i64 most)] H_5 fun u3 H_6 => ∃ r5 : Option Addr, ∃ ra : Option Addr, ∃ rn : Nat, ∃ rc : Nat, ∃ r6 : Int, u3 = (.tuple #[(.pointer r5), (.slice ra rn rc), (.int .i64 r6)]) ∧
  ∃ v : Bool, (((!decide (r4 = r6)) = false) → cellAt H_6 b1 1 = some (.bool v)) ∧
  ∃ va : Option Addr, ∃ vn : Nat, ∃ vc : Nat, ((((!decide (r4 = r6)) || v) = false) → cellAt H_6 b1 2 = some (.slice va vn vc)) ∧
  ∃ va1 : Option Addr, ∃ vn1 : Nat, ∃ vc1 : Nat, ((((!decide (r4 = r6)) || v) = false) → cellAt H_6 b1 0 = some (.slice va1 vn1 vc1)) ∧
  ((((((!decide (r4 = r6)) || v) || (!decide ((IntKind.i64.wrap ((vn : Int) + (vn1 : Int))) = 0))) || (!(r3.isNone == r5.isNone)))) = true →
  K (.bool false) H_6) ∧
  ((((((!decide (r4 = r6)) || v) || (!decide ((IntKind.i64.wrap ((vn : Int) + (vn1 : Int))) = 0))) || (!(r3.isNone == r5.isNone)))) = false →
  (((r3.isNone || r5.isNone)) = true →
  K (.bool true) H_6) ∧
  (((r3.isNone || r5.isNone)) = false →
  ∃ (Inv : (Option Addr) → (Option Addr) → Int → Heap → Prop) (mu : (Option Addr) → (Option Addr) → Int → Heap → Nat), Inv r3 r5 0 H_6 ∧
  ∀ (b2 : Option Addr) (r7 : Option Addr) (i : Int), ∀ H_7 : Heap, Inv b2 r7 i H_7 → BookCalls.l2 most callsa callsn K r1 r2 b Inv mu b2 r7 i H_7)))))

def BookCalls.ann : Ann := (.seq .reg (.seq (.seq .reg (.cond (.seq .reg .no) .no)) (.seq (.seq .reg (.cond (.seq .reg .no) .no)) (.seq .reg (.seq .reg (.seq (.seq .reg (.cond (.seq .reg .no) .no)) (.seq .reg (.seq .reg (.seq (.seq .reg (.cond (.seq .reg .no) .no)) (.seq (.seq .reg (.cond (.seq .reg .no) .no)) (.seq (.seq .reg (.blk (.loop [(7, .one (.ptr)), (10, .one (.ptr)), (13, .one (.int .i64))] (.seq (.seq .reg (.cond .no .no)) (.seq (.blk (.seq .reg (.seq (.seq (.regJ [(142, .one (.bool))]) (.cond (.seq .reg .no) .no)) (.seq .reg .reg)))) .reg))))) (.seq .reg .no))))))))))))

theorem BookCalls.eq (most : Int) (callsa : Option Addr) (callsn : Nat) (callsc : Nat) (H : Heap) (K : Value → Heap → Prop) : vcFun X Tryz.f3 BookCalls.ann [(.int .i64 most), (.slice callsa callsn callsc)] H K = BookCalls.code most callsa callsn callsc H K := by kernel_rfl

theorem BookCalls.call {most : Int} {callsa : Option Addr} {callsn : Nat} {callsc : Nat} {H : Heap} {K : Value → Heap → Prop} (h : BookCalls.code most callsa callsn callsc H K) : CallF Tryz.prog 3 #[(.int .i64 most), (.slice callsa callsn callsc)] H K :=
  callF_of_eq (X := X) X_P X_wide X_bodied Tryz.func3 (BookCalls.eq most callsa callsn callsc H K) h

end Go.Proofs.YtomdcdfcdeaabaaGreat
