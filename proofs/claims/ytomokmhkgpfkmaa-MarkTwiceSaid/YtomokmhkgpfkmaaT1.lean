import Derived.Test.YtomokmhkgpfkmaaE9
import Derived.Test.YtomokmhkgpfkmaaProg
import Derived.KernelRfl
set_option maxRecDepth 100000
set_option linter.unusedVariables false
namespace Go.Proofs.Ytomokmhkgpfkmaa
open Go Go.Nm Go.Proofs
noncomputable def X : Ctx := { P := Try.prog, quiet := [8, 9, 25, 32, 35, 36], calls := [2, 3, 4, 5, 6, 7, 8, 9, 10, 11, 12, 13, 14, 15, 16, 17, 18, 19, 20, 21, 22, 23, 24, 25, 26, 27, 28, 29, 30, 31, 32, 33, 34, 35, 36, 38, 39, 40, 41, 42, 43, 44, 45, 46, 47, 48, 49, 50, 51, 52, 53, 54, 55, 56, 57, 58, 59, 60, 61] }
theorem X_P : X.P = Try.prog := rfl
theorem X_wide : X.P.follows .mixedOrders = true := by kernel_rfl
theorem X_all : X.calls.all (bodiedB X.P) = true := by kernel_rfl
theorem X_bodied : ∀ f, memN f X.calls = true → Bodied X.P f := bodied_all X_all

def R20_Mark_has.code (mb : Nat) (mo : Nat) (agent : Int) (H : Heap) (K : Value → Heap → Prop) : Prop :=
  ((((decide (0 ≤ agent)) && (decide (agent ≤ 63))) = true) → True) ∧
  ((((decide (0 ≤ agent)) && (decide (agent ≤ 63))) = true) → ((0 : Int) ≤ agent ∧ agent < 64)) ∧
  ∃ v : Bool, ((((decide (0 ≤ agent)) && (decide (agent ≤ 63))) = true) → cellAt H mb (mo + 3 + agent.toNat * 5) = some (.bool v)) ∧
  K (.bool (((decide (0 ≤ agent)) && (decide (agent ≤ 63))) && v)) H

def R20_Mark_has.ann : Ann := (.seq .reg (.seq .reg .no))

theorem R20_Mark_has.eq (mb : Nat) (mo : Nat) (agent : Int) (H : Heap) (K : Value → Heap → Prop) : vcFun X Try.f36 R20_Mark_has.ann [(.pointer (some ⟨mb, mo, none⟩)), (.int .i64 agent)] H K = R20_Mark_has.code mb mo agent H K := by kernel_rfl

theorem R20_Mark_has.call {mb : Nat} {mo : Nat} {agent : Int} {H : Heap} {K : Value → Heap → Prop} (h : R20_Mark_has.code mb mo agent H K) : CallF Try.prog 36 #[(.pointer (some ⟨mb, mo, none⟩)), (.int .i64 agent)] H K :=
  callF_of_eq (X := X) X_P X_wide X_bodied Try.func36 (R20_Mark_has.eq mb mo agent H K) h

def R20_time.code (v : Int) (H : Heap) (K : Value → Heap → Prop) : Prop :=
  K (.bool ((decide (0 ≤ v)) && (decide (v ≤ 4611686018427387903)))) H

def R20_time.ann : Ann := (.seq .reg (.seq .reg .no))

theorem R20_time.eq (v : Int) (H : Heap) (K : Value → Heap → Prop) : vcFun X Try.f35 R20_time.ann [(.int .i64 v)] H K = R20_time.code v H K := by kernel_rfl

theorem R20_time.call {v : Int} {H : Heap} {K : Value → Heap → Prop} (h : R20_time.code v H K) : CallF Try.prog 35 #[(.int .i64 v)] H K :=
  callF_of_eq (X := X) X_P X_wide X_bodied Try.func35 (R20_time.eq v H K) h

def mark_Hold_1.code (fb : Nat) (fo : Nat) (c0b : Nat) (c0o : Nat) (H : Heap) (K : Value → Heap → Prop) : Prop :=
  ∃ v : Bool, cellAt H c0b c0o = some (.bool v) ∧
  canSet H fb (fo + 3) [(.bool v)] ∧
  ∀ H_ : Heap, H_ = setAll H fb (fo + 3) [(.bool v)] →
  K (.int .i64 0) H_

def mark_Hold_1.ann : Ann := (.seq .reg (.seq .reg (.seq .reg .no)))

theorem mark_Hold_1.eq (fb : Nat) (fo : Nat) (c0b : Nat) (c0o : Nat) (H : Heap) (K : Value → Heap → Prop) : vcFun X Try.f34 mark_Hold_1.ann [(.pointer (some ⟨fb, fo, none⟩)), (.pointer (some ⟨c0b, c0o, none⟩))] H K = mark_Hold_1.code fb fo c0b c0o H K := by kernel_rfl

theorem mark_Hold_1.call {fb : Nat} {fo : Nat} {c0b : Nat} {c0o : Nat} {H : Heap} {K : Value → Heap → Prop} (h : mark_Hold_1.code fb fo c0b c0o H K) : CallF Try.prog 34 #[(.pointer (some ⟨fb, fo, none⟩)), (.pointer (some ⟨c0b, c0o, none⟩))] H K :=
  callF_of_eq (X := X) X_P X_wide X_bodied Try.func34 (mark_Hold_1.eq fb fo c0b c0o H K) h

def mark_Raise_1.code (fb : Nat) (fo : Nat) (c0b : Nat) (c0o : Nat) (H : Heap) (K : Value → Heap → Prop) : Prop :=
  ∃ v : Int, cellAt H c0b c0o = some (.int .i64 v) ∧
  ∃ r : Bool, CallQ Try.prog 25 #[(.int .i64 v)] H (.bool r) ∧
  (((!r)) = true →
  K (.int .i64 11) H) ∧
  (((!r)) = false →
  ∃ v1 : Int, cellAt H fb fo = some (.int .i64 v1) ∧
  ∃ v2 : Int, cellAt H c0b c0o = some (.int .i64 v2) ∧
  canSet H fb fo [(.int .i64 (if v2 > v1 then v2 else v1))] ∧
  ∀ H_ : Heap, H_ = setAll H fb fo [(.int .i64 (if v2 > v1 then v2 else v1))] →
  K (.int .i64 0) H_)

def mark_Raise_1.ann : Ann := (.seq .reg (.seq (.seq .reg (.cond (.seq .reg .no) .no)) (.seq .reg (.seq .reg .no))))

theorem mark_Raise_1.eq (fb : Nat) (fo : Nat) (c0b : Nat) (c0o : Nat) (H : Heap) (K : Value → Heap → Prop) : vcFun X Try.f33 mark_Raise_1.ann [(.pointer (some ⟨fb, fo, none⟩)), (.pointer (some ⟨c0b, c0o, none⟩))] H K = mark_Raise_1.code fb fo c0b c0o H K := by kernel_rfl

theorem mark_Raise_1.call {fb : Nat} {fo : Nat} {c0b : Nat} {c0o : Nat} {H : Heap} {K : Value → Heap → Prop} (h : mark_Raise_1.code fb fo c0b c0o H K) : CallF Try.prog 33 #[(.pointer (some ⟨fb, fo, none⟩)), (.pointer (some ⟨c0b, c0o, none⟩))] H K :=
  callF_of_eq (X := X) X_P X_wide X_bodied Try.func33 (mark_Raise_1.eq fb fo c0b c0o H K) h

def mark_isAgent.code (agent : Int) (H : Heap) (K : Value → Heap → Prop) : Prop :=
  K (.bool ((decide (0 ≤ agent)) && (decide (agent < 64)))) H

def mark_isAgent.ann : Ann := (.seq .reg (.seq .reg .no))

theorem mark_isAgent.eq (agent : Int) (H : Heap) (K : Value → Heap → Prop) : vcFun X Try.f32 mark_isAgent.ann [(.int .i64 agent)] H K = mark_isAgent.code agent H K := by kernel_rfl

theorem mark_isAgent.call {agent : Int} {H : Heap} {K : Value → Heap → Prop} (h : mark_isAgent.code agent H K) : CallF Try.prog 32 #[(.int .i64 agent)] H K :=
  callF_of_eq (X := X) X_P X_wide X_bodied Try.func32 (mark_isAgent.eq agent H K) h

def mark_All_1.l1 (yieldl : Nat) (K : Value → Heap → Prop) (r : Option Nat) (ra : Option Addr) (rn : Nat) (Inv : Int → Heap → Prop) (mu : Int → Heap → Nat) (t15 : Int) (H_3 : Heap) : Prop :=
  (((decide (t15 < (rn : Int)))) = true →
  ((0 : Int) ≤ t15 ∧ t15 < (rn : Int)) ∧ ∃ b o : Nat, (ra = some ⟨b, o, none⟩) ∧
  ∃ v2 : Int, cellAt H_3 b (o + t15.toNat) = some (.int .i64 v2) ∧
  ∃ m0 : Int, ∃ m1 : Bool, ∃ m2 : Bool, ∃ m3 : Bool, ReadRun Try.prog (Instr.lookup 45 (.map r) (.int .i64 v2) false) H_3 (.agg #[(.int .i64 m0), (.bool m1), (.bool m2), (.bool m3)]) ∧
  YieldF Try.prog yieldl [(.int .i64 v2), (.agg #[(.int .i64 m0), (.bool m1), (.bool m2), (.bool m3)])] H_3 fun u3 H_4 => ∃ r1 : Bool, u3 = (.bool r1) ∧
  (((!r1)) = true →
  K (.tuple #[]) H_4) ∧
  (((!r1)) = false →
  Inv (IntKind.i64.wrap (t15 + 1)) H_4 ∧ mu (IntKind.i64.wrap (t15 + 1)) H_4 < mu t15 H_3)) ∧
  (((decide (t15 < (rn : Int)))) = false →
  K (.tuple #[]) H_3)

def mark_All_1.code (yieldl : Nat) (c0b : Nat) (c0o : Nat) (H : Heap) (K : Value → Heap → Prop) : Prop :=
  ∃ v : Option Addr, cellAt H c0b c0o = some (.pointer v) ∧
  NN v (
  ∃ v1 : Option Nat, cellAt H (adrB v) ((adrO v) + 3) = some (.map v1) ∧
  CallF Try.prog 29 #[(.map v1)] H fun u H_ => ∃ r : Option Nat, u = (.map r) ∧
  CallF Try.prog 31 #[(.map r)] H_ fun u1 H_1 => ∃ rf : FuncId, ∃ rl : List Value, u1 = (.func (.func rf) #[] ⟨rl⟩) ∧
  CallF Try.prog 30 #[(.func (.func rf) #[] ⟨rl⟩)] H_1 fun u2 H_2 => ∃ ra : Option Addr, ∃ rn : Nat, ∃ rc : Nat, u2 = (.slice ra rn rc) ∧
  ∃ (Inv : Int → Heap → Prop) (mu : Int → Heap → Nat), Inv 0 H_2 ∧
  ∀ (t15 : Int), ∀ H_3 : Heap, Inv t15 H_3 → mark_All_1.l1 yieldl K r ra rn Inv mu t15 H_3)

def mark_All_1.ann : Ann := (.seq .reg (.seq .reg (.blk (.loop [(15, .one (.int .i64))] (.seq .reg (.seq (.cond .no .no) (.seq (.blk (.seq .reg (.seq .reg (.cond .no .no)))) .reg)))))))

theorem mark_All_1.eq (yieldl : Nat) (c0b : Nat) (c0o : Nat) (H : Heap) (K : Value → Heap → Prop) : vcFun X Try.f28 mark_All_1.ann [(.func (.yield yieldl) #[] #[]), (.pointer (some ⟨c0b, c0o, none⟩))] H K = mark_All_1.code yieldl c0b c0o H K := by kernel_rfl

theorem mark_All_1.call {yieldl : Nat} {c0b : Nat} {c0o : Nat} {H : Heap} {K : Value → Heap → Prop} (h : mark_All_1.code yieldl c0b c0o H K) : CallF Try.prog 28 #[(.func (.yield yieldl) #[] #[]), (.pointer (some ⟨c0b, c0o, none⟩))] H K :=
  callF_of_eq (X := X) X_P X_wide X_bodied Try.func28 (mark_All_1.eq yieldl c0b c0o H K) h

def mark_Tick_1.r1 (K : Value → Heap → Prop) (H_2 : Heap) : Prop :=
  K (.int .i64 0) H_2

def mark_Tick_1.code (fb : Nat) (fo : Nat) (c0b : Nat) (c0o : Nat) (c1b : Nat) (c1o : Nat) (c2b : Nat) (c2o : Nat) (c3b : Nat) (c3o : Nat) (H : Heap) (K : Value → Heap → Prop) : Prop :=
  ∃ v : Int, cellAt H fb fo = some (.int .i64 v) ∧
  ∃ v1 : Int, cellAt H c0b c0o = some (.int .i64 v1) ∧
  ∃ v2 : Option Addr, cellAt H c1b c1o = some (.pointer v2) ∧
  NN v2 (
  ∃ v3 : Int, cellAt H (adrB v2) (adrO v2) = some (.int .i64 v3) ∧
  canSet H fb (fo + 1) [(.bool (decide (v < (IntKind.i64.wrap (v1 - v3)))))] ∧
  ∀ H_ : Heap, H_ = setAll H fb (fo + 1) [(.bool (decide (v < (IntKind.i64.wrap (v1 - v3)))))] →
  ∃ v4 : Bool, cellAt H_ fb (fo + 2) = some (.bool v4) ∧
  ((v4 = false) → True) ∧
  ∃ v5 : Bool, ((v4 = false) → cellAt H_ fb (fo + 1) = some (.bool v5)) ∧
  canSet H_ fb (fo + 2) [(.bool (v4 || v5))] ∧
  ∀ H_1 : Heap, H_1 = setAll H_ fb (fo + 2) [(.bool (v4 || v5))] →
  ∃ v6 : Bool, cellAt H_1 fb (fo + 1) = some (.bool v6) ∧
  (((!v6) = true) → True) ∧
  ∃ v7 : Bool, (((!v6) = true) → cellAt H_1 fb (fo + 3) = some (.bool v7)) ∧
  ∃ v8 : Bool, ((((!v6) && (!v7)) = true) → cellAt H_1 c2b c2o = some (.bool v8)) ∧
  (((((!v6) && (!v7)) = true) ∧ (!v8) = false) → True) ∧
  ∃ v9 : Int, (((((!v6) && (!v7)) = true) ∧ (!v8) = false) → cellAt H_1 fb fo = some (.int .i64 v9)) ∧
  ∃ v10 : Int, (((((!v6) && (!v7)) = true) ∧ (!v8) = false) → cellAt H_1 c3b c3o = some (.int .i64 v10)) ∧
  ∀ Jn : Heap → Prop, (∀ H_2 : Heap, mark_Tick_1.r1 K H_2 → Jn H_2) →
  (((((!v6) && (!v7)) && ((!v8) || (decide (v9 < v10))))) = true →
  ∃ v11 : Int, cellAt H_1 fb fo = some (.int .i64 v11) ∧
  canSet H_1 c3b c3o [(.int .i64 v11)] ∧
  ∀ H_3 : Heap, H_3 = setAll H_1 c3b c3o [(.int .i64 v11)] →
  canSet H_3 c2b c2o [(.bool true)] ∧
  ∀ H_4 : Heap, H_4 = setAll H_3 c2b c2o [(.bool true)] →
  Jn H_4) ∧
  (((((!v6) && (!v7)) && ((!v8) || (decide (v9 < v10))))) = false →
  Jn H_1))

def mark_Tick_1.ann : Ann := (.seq .reg (.seq .reg (.seq .reg (.seq (.seq .reg (.condJ [] .reg .no)) (.seq .reg .no)))))

theorem mark_Tick_1.eq (fb : Nat) (fo : Nat) (c0b : Nat) (c0o : Nat) (c1b : Nat) (c1o : Nat) (c2b : Nat) (c2o : Nat) (c3b : Nat) (c3o : Nat) (H : Heap) (K : Value → Heap → Prop) : vcFun X Try.f27 mark_Tick_1.ann [(.pointer (some ⟨fb, fo, none⟩)), (.pointer (some ⟨c0b, c0o, none⟩)), (.pointer (some ⟨c1b, c1o, none⟩)), (.pointer (some ⟨c2b, c2o, none⟩)), (.pointer (some ⟨c3b, c3o, none⟩))] H K = mark_Tick_1.code fb fo c0b c0o c1b c1o c2b c2o c3b c3o H K := by kernel_rfl

theorem mark_Tick_1.call {fb : Nat} {fo : Nat} {c0b : Nat} {c0o : Nat} {c1b : Nat} {c1o : Nat} {c2b : Nat} {c2o : Nat} {c3b : Nat} {c3o : Nat} {H : Heap} {K : Value → Heap → Prop} (h : mark_Tick_1.code fb fo c0b c0o c1b c1o c2b c2o c3b c3o H K) : CallF Try.prog 27 #[(.pointer (some ⟨fb, fo, none⟩)), (.pointer (some ⟨c0b, c0o, none⟩)), (.pointer (some ⟨c1b, c1o, none⟩)), (.pointer (some ⟨c2b, c2o, none⟩)), (.pointer (some ⟨c3b, c3o, none⟩))] H K :=
  callF_of_eq (X := X) X_P X_wide X_bodied Try.func27 (mark_Tick_1.eq fb fo c0b c0o c1b c1o c2b c2o c3b c3o H K) h

def mark_change.code (mb : Nat) (mo : Nat) (agent : Int) (byf : FuncId) (byl : List Value) (H : Heap) (K : Value → Heap → Prop) : Prop :=
  ∃ v : Option Nat, cellAt H mb (mo + 3) = some (.map v) ∧
  ∃ m0 : Int, ∃ m1 : Bool, ∃ m2 : Bool, ∃ m3 : Bool, ∃ there : Bool, ReadRun Try.prog (Instr.lookup 45 (.map v) (.int .i64 agent) true) H (.tuple #[(.agg #[(.int .i64 m0), (.bool m1), (.bool m2), (.bool m3)]), (.bool there)]) ∧
  ∀ (b : Nat) (H_ : Heap), b = H.size → H_ = H.push (.cells #[(.int .i64 0), (.bool false), (.bool false), (.bool false)] 40) →
  canSet H_ b 0 [(.int .i64 m0), (.bool m1), (.bool m2), (.bool m3)] ∧
  ∀ H_1 : Heap, H_1 = setAll H_ b 0 [(.int .i64 m0), (.bool m1), (.bool m2), (.bool m3)] →
  (((!there)) = true →
  K (.int .i64 19) H_1) ∧
  (((!there)) = false →
  memN byf X.calls = true ∧
  CallF Try.prog byf ⟨[(.pointer (some ⟨b, 0, none⟩))] ++ byl⟩ H_1 fun u H_2 => ∃ r : Int, u = (.int .i64 r) ∧
  (((!decide (r = 0))) = true →
  K (.int .i64 r) H_2) ∧
  (((!decide (r = 0))) = false →
  ∃ v1 : Option Nat, cellAt H_2 mb (mo + 3) = some (.map v1) ∧
  ∃ c0 : Int, ∃ c1 : Bool, ∃ c2 : Bool, ∃ c3 : Bool, cellsAre H_2 b 0 [(.int .i64 c0), (.bool c1), (.bool c2), (.bool c3)] ∧
  RunW Try.prog (Instr.mapUpdate 45 (.map v1) (.int .i64 agent) (.agg #[(.int .i64 c0), (.bool c1), (.bool c2), (.bool c3)])) H_2 fun u1 H_3 =>
  K (.int .i64 0) H_3))

def mark_change.ann : Ann := (.seq .reg (.seq .reg (.seq (.seq .reg (.cond (.seq .reg .no) .no)) (.seq (.seq .reg (.seq .reg (.cond (.seq .reg .no) .no))) (.seq .reg (.seq .reg .no))))))

theorem mark_change.eq (mb : Nat) (mo : Nat) (agent : Int) (byf : FuncId) (byl : List Value) (H : Heap) (K : Value → Heap → Prop) : vcFun X Try.f26 mark_change.ann [(.pointer (some ⟨mb, mo, none⟩)), (.int .i64 agent), (.func (.func byf) #[] ⟨byl⟩)] H K = mark_change.code mb mo agent byf byl H K := by kernel_rfl

theorem mark_change.call {mb : Nat} {mo : Nat} {agent : Int} {byf : FuncId} {byl : List Value} {H : Heap} {K : Value → Heap → Prop} (h : mark_change.code mb mo agent byf byl H K) : CallF Try.prog 26 #[(.pointer (some ⟨mb, mo, none⟩)), (.int .i64 agent), (.func (.func byf) #[] ⟨byl⟩)] H K :=
  callF_of_eq (X := X) X_P X_wide X_bodied Try.func26 (mark_change.eq mb mo agent byf byl H K) h

def mark_isTime.code (t : Int) (H : Heap) (K : Value → Heap → Prop) : Prop :=
  K (.bool ((decide (0 ≤ t)) && (decide (t ≤ 4611686018427387903)))) H

def mark_isTime.ann : Ann := (.seq .reg (.seq .reg .no))

theorem mark_isTime.eq (t : Int) (H : Heap) (K : Value → Heap → Prop) : vcFun X Try.f25 mark_isTime.ann [(.int .i64 t)] H K = mark_isTime.code t H K := by kernel_rfl

theorem mark_isTime.call {t : Int} {H : Heap} {K : Value → Heap → Prop} (h : mark_isTime.code t H K) : CallF Try.prog 25 #[(.int .i64 t)] H K :=
  callF_of_eq (X := X) X_P X_wide X_bodied Try.func25 (mark_isTime.eq t H K) h

def R20_Mark_Tick.r1 (Inv : Bool → Int → Int → Heap → Prop) (mu : Bool → Int → Int → Heap → Nat) (some_ : Bool) (least : Int) (i : Int) (H_1 : Heap) (some_1 : Bool) (least1 : Int) (H_2 : Heap) : Prop :=
  Inv some_1 least1 (IntKind.i64.wrap (i + 1)) H_2 ∧ mu some_1 least1 (IntKind.i64.wrap (i + 1)) H_2 < mu some_ least i H_1

def R20_Mark_Tick.r2 (Jn : Bool → Int → Heap → Prop) (some_2 : Bool) (least2 : Int) (H_5 : Heap) : Prop :=
  Jn some_2 least2 H_5

def R20_Mark_Tick.r3 (mb : Nat) (mo : Nat) (K : Value → Heap → Prop) (least3 : Int) (H_6 : Heap) : Prop :=
  ∃ v10 : Int, cellAt H_6 mb (mo + 2) = some (.int .i64 v10) ∧
  canSet H_6 mb (mo + 2) [(.int .i64 (if least3 > v10 then least3 else v10))] ∧
  ∀ H_7 : Heap, H_7 = setAll H_6 mb (mo + 2) [(.int .i64 (if least3 > v10 then least3 else v10))] →
  K (.int .i64 0) H_7

def R20_Mark_Tick.l4 (mb : Nat) (mo : Nat) (now : Int) (K : Value → Heap → Prop) (Inv : Bool → Int → Int → Heap → Prop) (mu : Bool → Int → Int → Heap → Nat) (some_ : Bool) (least : Int) (i : Int) (H_1 : Heap) : Prop :=
  (((decide (i < 64))) = true →
  ∀ Jn : Bool → Int → Heap → Prop, (∀ (some_1 : Bool) (least1 : Int), ∀ H_2 : Heap, R20_Mark_Tick.r1 Inv mu some_ least i H_1 some_1 least1 H_2 → Jn some_1 least1 H_2) →
  ((0 : Int) ≤ i ∧ i < 64) ∧
  ∃ v1 : Bool, cellAt H_1 mb (mo + 3 + i.toNat * 5) = some (.bool v1) ∧
  (((!v1)) = true →
  Jn some_ least H_1) ∧
  (((!v1)) = false →
  ∃ v2 : Int, cellAt H_1 mb (mo + 3 + i.toNat * 5 + 1) = some (.int .i64 v2) ∧
  ∃ v3 : Int, cellAt H_1 mb mo = some (.int .i64 v3) ∧
  canSet H_1 mb (mo + 3 + i.toNat * 5 + 2) [(.bool (decide (v2 < (IntKind.i64.wrap (now - v3)))))] ∧
  ∀ H_3 : Heap, H_3 = setAll H_1 mb (mo + 3 + i.toNat * 5 + 2) [(.bool (decide (v2 < (IntKind.i64.wrap (now - v3)))))] →
  ∃ v4 : Bool, cellAt H_3 mb (mo + 3 + i.toNat * 5 + 3) = some (.bool v4) ∧
  ((v4 = false) → True) ∧
  ∃ v5 : Bool, ((v4 = false) → cellAt H_3 mb (mo + 3 + i.toNat * 5 + 2) = some (.bool v5)) ∧
  canSet H_3 mb (mo + 3 + i.toNat * 5 + 3) [(.bool (v4 || v5))] ∧
  ∀ H_4 : Heap, H_4 = setAll H_3 mb (mo + 3 + i.toNat * 5 + 3) [(.bool (v4 || v5))] →
  ∃ v6 : Bool, cellAt H_4 mb (mo + 3 + i.toNat * 5 + 2) = some (.bool v6) ∧
  (((!v6) = true) → True) ∧
  ∃ v7 : Bool, (((!v6) = true) → cellAt H_4 mb (mo + 3 + i.toNat * 5 + 4) = some (.bool v7)) ∧
  (((((!v6) && (!v7)) = true) ∧ (!some_) = false) → True) ∧
  ∃ v8 : Int, (((((!v6) && (!v7)) = true) ∧ (!some_) = false) → cellAt H_4 mb (mo + 3 + i.toNat * 5 + 1) = some (.int .i64 v8)) ∧
  ∀ Jn1 : Bool → Int → Heap → Prop, (∀ (some_2 : Bool) (least2 : Int), ∀ H_5 : Heap, R20_Mark_Tick.r2 Jn some_2 least2 H_5 → Jn1 some_2 least2 H_5) →
  (((((!v6) && (!v7)) && ((!some_) || (decide (v8 < least))))) = true →
  ∃ v9 : Int, cellAt H_4 mb (mo + 3 + i.toNat * 5 + 1) = some (.int .i64 v9) ∧
  Jn1 true v9 H_4) ∧
  (((((!v6) && (!v7)) && ((!some_) || (decide (v8 < least))))) = false →
  Jn1 some_ least H_4))) ∧
  (((decide (i < 64))) = false →
  ∀ Jn2 : Int → Heap → Prop, (∀ (least3 : Int), ∀ H_6 : Heap, R20_Mark_Tick.r3 mb mo K least3 H_6 → Jn2 least3 H_6) →
  (((!some_)) = true →
  ∃ v11 : Int, cellAt H_1 mb mo = some (.int .i64 v11) ∧
  Jn2 (IntKind.i64.wrap (now - v11)) H_1) ∧
  (((!some_)) = false →
  Jn2 least H_1))

def R20_Mark_Tick.code (mb : Nat) (mo : Nat) (now : Int) (H : Heap) (K : Value → Heap → Prop) : Prop :=
  ∃ r : Bool, CallQ Try.prog 35 #[(.int .i64 now)] H (.bool r) ∧
  (((!r) = false) → True) ∧
  ∃ v : Int, (((!r) = false) → cellAt H mb (mo + 1) = some (.int .i64 v)) ∧
  ((((!r) || (decide (now < v)))) = true →
  K (.int .i64 11) H) ∧
  ((((!r) || (decide (now < v)))) = false →
  canSet H mb (mo + 1) [(.int .i64 now)] ∧
  ∀ H_ : Heap, H_ = setAll H mb (mo + 1) [(.int .i64 now)] →
  ∃ (Inv : Bool → Int → Int → Heap → Prop) (mu : Bool → Int → Int → Heap → Nat), Inv false 0 0 H_ ∧
  ∀ (some_ : Bool) (least : Int) (i : Int), ∀ H_1 : Heap, Inv some_ least i H_1 → R20_Mark_Tick.l4 mb mo now K Inv mu some_ least i H_1)

def R20_Mark_Tick.ann : Ann := (.seq .reg (.seq (.seq .reg (.cond (.seq .reg .no) .no)) (.seq .reg (.seq .reg (.seq .reg (.seq (.seq .reg (.blk (.loop [(5, .one (.bool)), (6, .one (.int .i64)), (7, .one (.int .i64))] (.seq (.seq .reg (.cond .no .no)) (.seq (.blkJ [(5, .one (.bool)), (6, .one (.int .i64))] (.seq .reg (.seq (.seq .reg (.cond .no .no)) (.seq .reg (.seq .reg (.seq .reg (.condJ [(5, .one (.bool)), (6, .one (.int .i64))] (.seq .reg .reg) .no))))))) .reg))))) (.seq (.seq .reg (.condJ [(6, .one (.int .i64))] .reg .no)) (.seq .reg (.seq .reg .no)))))))))

theorem R20_Mark_Tick.eq (mb : Nat) (mo : Nat) (now : Int) (H : Heap) (K : Value → Heap → Prop) : vcFun X Try.f24 R20_Mark_Tick.ann [(.pointer (some ⟨mb, mo, none⟩)), (.int .i64 now)] H K = R20_Mark_Tick.code mb mo now H K := by kernel_rfl

theorem R20_Mark_Tick.call {mb : Nat} {mo : Nat} {now : Int} {H : Heap} {K : Value → Heap → Prop} (h : R20_Mark_Tick.code mb mo now H K) : CallF Try.prog 24 #[(.pointer (some ⟨mb, mo, none⟩)), (.int .i64 now)] H K :=
  callF_of_eq (X := X) X_P X_wide X_bodied Try.func24 (R20_Mark_Tick.eq mb mo now H K) h

def R20_Mark_Leave.code (mb : Nat) (mo : Nat) (agent : Int) (H : Heap) (K : Value → Heap → Prop) : Prop :=
  ∃ r : Bool, CallQ Try.prog 36 #[(.pointer (some ⟨mb, mo, none⟩)), (.int .i64 agent)] H (.bool r) ∧
  (((!r)) = true →
  K (.int .i64 19) H) ∧
  (((!r)) = false →
  ((0 : Int) ≤ agent ∧ agent < 64) ∧
  canSet H mb (mo + 3 + agent.toNat * 5) [(.bool false), (.int .i64 0), (.bool false), (.bool false), (.bool false)] ∧
  ∀ H_ : Heap, H_ = setAll H mb (mo + 3 + agent.toNat * 5) [(.bool false), (.int .i64 0), (.bool false), (.bool false), (.bool false)] →
  K (.int .i64 0) H_)

def R20_Mark_Leave.ann : Ann := (.seq .reg (.seq (.seq .reg (.cond (.seq .reg .no) .no)) (.seq .reg (.seq .reg .no))))

theorem R20_Mark_Leave.eq (mb : Nat) (mo : Nat) (agent : Int) (H : Heap) (K : Value → Heap → Prop) : vcFun X Try.f23 R20_Mark_Leave.ann [(.pointer (some ⟨mb, mo, none⟩)), (.int .i64 agent)] H K = R20_Mark_Leave.code mb mo agent H K := by kernel_rfl

theorem R20_Mark_Leave.call {mb : Nat} {mo : Nat} {agent : Int} {H : Heap} {K : Value → Heap → Prop} (h : R20_Mark_Leave.code mb mo agent H K) : CallF Try.prog 23 #[(.pointer (some ⟨mb, mo, none⟩)), (.int .i64 agent)] H K :=
  callF_of_eq (X := X) X_P X_wide X_bodied Try.func23 (R20_Mark_Leave.eq mb mo agent H K) h

def R20_Mark_Hold.code (mb : Nat) (mo : Nat) (agent : Int) (held : Bool) (H : Heap) (K : Value → Heap → Prop) : Prop :=
  ∃ r : Bool, CallQ Try.prog 36 #[(.pointer (some ⟨mb, mo, none⟩)), (.int .i64 agent)] H (.bool r) ∧
  (((!r)) = true →
  K (.int .i64 19) H) ∧
  (((!r)) = false →
  ((0 : Int) ≤ agent ∧ agent < 64) ∧
  canSet H mb (mo + 3 + agent.toNat * 5 + 4) [(.bool held)] ∧
  ∀ H_ : Heap, H_ = setAll H mb (mo + 3 + agent.toNat * 5 + 4) [(.bool held)] →
  K (.int .i64 0) H_)

def R20_Mark_Hold.ann : Ann := (.seq .reg (.seq (.seq .reg (.cond (.seq .reg .no) .no)) (.seq .reg (.seq .reg .no))))

theorem R20_Mark_Hold.eq (mb : Nat) (mo : Nat) (agent : Int) (held : Bool) (H : Heap) (K : Value → Heap → Prop) : vcFun X Try.f22 R20_Mark_Hold.ann [(.pointer (some ⟨mb, mo, none⟩)), (.int .i64 agent), (.bool held)] H K = R20_Mark_Hold.code mb mo agent held H K := by kernel_rfl

theorem R20_Mark_Hold.call {mb : Nat} {mo : Nat} {agent : Int} {held : Bool} {H : Heap} {K : Value → Heap → Prop} (h : R20_Mark_Hold.code mb mo agent held H K) : CallF Try.prog 22 #[(.pointer (some ⟨mb, mo, none⟩)), (.int .i64 agent), (.bool held)] H K :=
  callF_of_eq (X := X) X_P X_wide X_bodied Try.func22 (R20_Mark_Hold.eq mb mo agent held H K) h

def R20_Mark_Raise.code (mb : Nat) (mo : Nat) (agent : Int) (floor : Int) (H : Heap) (K : Value → Heap → Prop) : Prop :=
  ∃ r : Bool, CallQ Try.prog 36 #[(.pointer (some ⟨mb, mo, none⟩)), (.int .i64 agent)] H (.bool r) ∧
  (((!r)) = true →
  K (.int .i64 19) H) ∧
  (((!r)) = false →
  ∃ r1 : Bool, CallQ Try.prog 35 #[(.int .i64 floor)] H (.bool r1) ∧
  (((!r1)) = true →
  K (.int .i64 11) H) ∧
  (((!r1)) = false →
  ((0 : Int) ≤ agent ∧ agent < 64) ∧
  ∃ v : Int, cellAt H mb (mo + 3 + agent.toNat * 5 + 1) = some (.int .i64 v) ∧
  ((0 : Int) ≤ agent ∧ agent < 64) ∧
  canSet H mb (mo + 3 + agent.toNat * 5 + 1) [(.int .i64 (if floor > v then floor else v))] ∧
  ∀ H_ : Heap, H_ = setAll H mb (mo + 3 + agent.toNat * 5 + 1) [(.int .i64 (if floor > v then floor else v))] →
  K (.int .i64 0) H_))

def R20_Mark_Raise.ann : Ann := (.seq .reg (.seq (.seq .reg (.cond (.seq .reg .no) .no)) (.seq (.seq .reg (.cond (.seq .reg .no) .no)) (.seq .reg (.seq .reg .no)))))

theorem R20_Mark_Raise.eq (mb : Nat) (mo : Nat) (agent : Int) (floor : Int) (H : Heap) (K : Value → Heap → Prop) : vcFun X Try.f21 R20_Mark_Raise.ann [(.pointer (some ⟨mb, mo, none⟩)), (.int .i64 agent), (.int .i64 floor)] H K = R20_Mark_Raise.code mb mo agent floor H K := by kernel_rfl

theorem R20_Mark_Raise.call {mb : Nat} {mo : Nat} {agent : Int} {floor : Int} {H : Heap} {K : Value → Heap → Prop} (h : R20_Mark_Raise.code mb mo agent floor H K) : CallF Try.prog 21 #[(.pointer (some ⟨mb, mo, none⟩)), (.int .i64 agent), (.int .i64 floor)] H K :=
  callF_of_eq (X := X) X_P X_wide X_bodied Try.func21 (R20_Mark_Raise.eq mb mo agent floor H K) h

def R20_Mark_Join.code (mb : Nat) (mo : Nat) (agent : Int) (floor : Int) (H : Heap) (K : Value → Heap → Prop) : Prop :=
  ∃ r : Bool, ((((decide (agent < 0)) || (decide (63 < agent))) = false) → CallQ Try.prog 35 #[(.int .i64 floor)] H (.bool r)) ∧
  (((((decide (agent < 0)) || (decide (63 < agent))) || (!r))) = true →
  K (.int .i64 11) H) ∧
  (((((decide (agent < 0)) || (decide (63 < agent))) || (!r))) = false →
  ∃ r1 : Bool, CallQ Try.prog 36 #[(.pointer (some ⟨mb, mo, none⟩)), (.int .i64 agent)] H (.bool r1) ∧
  ((r1) = true →
  K (.int .i64 18) H) ∧
  ((r1) = false →
  ((0 : Int) ≤ agent ∧ agent < 64) ∧
  canSet H mb (mo + 3 + agent.toNat * 5) [(.bool true), (.int .i64 floor), (.bool false), (.bool false), (.bool false)] ∧
  ∀ H_ : Heap, H_ = setAll H mb (mo + 3 + agent.toNat * 5) [(.bool true), (.int .i64 floor), (.bool false), (.bool false), (.bool false)] →
  K (.int .i64 0) H_))

def R20_Mark_Join.ann : Ann := (.seq .reg (.seq (.seq .reg (.cond (.seq .reg .no) .no)) (.seq (.seq .reg (.cond (.seq .reg .no) .no)) (.seq .reg (.seq .reg .no)))))

theorem R20_Mark_Join.eq (mb : Nat) (mo : Nat) (agent : Int) (floor : Int) (H : Heap) (K : Value → Heap → Prop) : vcFun X Try.f20 R20_Mark_Join.ann [(.pointer (some ⟨mb, mo, none⟩)), (.int .i64 agent), (.int .i64 floor)] H K = R20_Mark_Join.code mb mo agent floor H K := by kernel_rfl

theorem R20_Mark_Join.call {mb : Nat} {mo : Nat} {agent : Int} {floor : Int} {H : Heap} {K : Value → Heap → Prop} (h : R20_Mark_Join.code mb mo agent floor H K) : CallF Try.prog 20 #[(.pointer (some ⟨mb, mo, none⟩)), (.int .i64 agent), (.int .i64 floor)] H K :=
  callF_of_eq (X := X) X_P X_wide X_bodied Try.func20 (R20_Mark_Join.eq mb mo agent floor H K) h

def mark_Set.l1 (mb : Nat) (mo : Nat) (now : Int) (value : Int) (K : Value → Heap → Prop) (b : Nat) (it : Nat) (Inv : Heap → Prop) (mu : Heap → Nat) (H_2 : Heap) : Prop :=
  RunW Try.prog (Instr.next (.pointer (some ⟨it, 0, none⟩)) false 0) H_2 fun u1 H_3 =>
  (u1 = (.tuple #[(.bool false)]) ∧
  ((false) = true →
  ∃ k : Int, ∃ x0 : Int, ∃ x1 : Bool, ∃ x2 : Bool, ∃ x3 : Bool, ReadRun Try.prog (Instr.entry (.pointer (some ⟨it, 0, none⟩))) H_3 (.tuple #[(.int .i64 k), (.agg #[(.int .i64 x0), (.bool x1), (.bool x2), (.bool x3)])]) ∧
  ∀ (b1 : Nat) (H_4 : Heap), b1 = H_3.size → H_4 = H_3.push (.cells #[(.int .i64 0), (.bool false), (.bool false), (.bool false)] 40) →
  canSet H_4 b1 0 [(.int .i64 x0), (.bool x1), (.bool x2), (.bool x3)] ∧
  ∀ H_5 : Heap, H_5 = setAll H_4 b1 0 [(.int .i64 x0), (.bool x1), (.bool x2), (.bool x3)] →
  ∃ r1 : Bool, CallQ Try.prog 32 #[(.int .i64 k)] H_5 (.bool r1) ∧
  ∃ v1 : Int, (((!r1) = false) → cellAt H_5 b1 0 = some (.int .i64 v1)) ∧
  ∃ r2 : Bool, (((!r1) = false) → CallQ Try.prog 25 #[(.int .i64 v1)] H_5 (.bool r2)) ∧
  ((((!r1) || (!r2))) = true →
  K (.int .i64 11) H_5) ∧
  ((((!r1) || (!r2))) = false →
  ∃ c0 : Int, ∃ c1 : Bool, ∃ c2 : Bool, ∃ c3 : Bool, cellsAre H_5 b1 0 [(.int .i64 c0), (.bool c1), (.bool c2), (.bool c3)] ∧
  RunW Try.prog (Instr.mapUpdate 45 (.map (some b)) (.int .i64 k) (.agg #[(.int .i64 c0), (.bool c1), (.bool c2), (.bool c3)])) H_5 fun u2 H_6 =>
  Inv H_6 ∧ mu H_6 < mu H_2)) ∧
  ((false) = false →
  canSet H_3 mb (mo + 1) [(.int .i64 now)] ∧
  ∀ H_7 : Heap, H_7 = setAll H_3 mb (mo + 1) [(.int .i64 now)] →
  canSet H_7 mb (mo + 2) [(.int .i64 value)] ∧
  ∀ H_8 : Heap, H_8 = setAll H_7 mb (mo + 2) [(.int .i64 value)] →
  canSet H_8 mb (mo + 3) [(.map (some b))] ∧
  ∀ H_9 : Heap, H_9 = setAll H_8 mb (mo + 3) [(.map (some b))] →
  K (.int .i64 0) H_9)) ∨
  (∃ k1 x : Value, u1 = (.tuple #[(.bool true), k1, x]) ∧
  ((true) = true →
  ∃ k2 : Int, ∃ x0_1 : Int, ∃ x1_1 : Bool, ∃ x2_1 : Bool, ∃ x3_1 : Bool, ReadRun Try.prog (Instr.entry (.pointer (some ⟨it, 0, none⟩))) H_3 (.tuple #[(.int .i64 k2), (.agg #[(.int .i64 x0_1), (.bool x1_1), (.bool x2_1), (.bool x3_1)])]) ∧
  ∀ (b2 : Nat) (H_10 : Heap), b2 = H_3.size → H_10 = H_3.push (.cells #[(.int .i64 0), (.bool false), (.bool false), (.bool false)] 40) →
  canSet H_10 b2 0 [(.int .i64 x0_1), (.bool x1_1), (.bool x2_1), (.bool x3_1)] ∧
  ∀ H_11 : Heap, H_11 = setAll H_10 b2 0 [(.int .i64 x0_1), (.bool x1_1), (.bool x2_1), (.bool x3_1)] →
  ∃ r3 : Bool, CallQ Try.prog 32 #[(.int .i64 k2)] H_11 (.bool r3) ∧
  ∃ v2 : Int, (((!r3) = false) → cellAt H_11 b2 0 = some (.int .i64 v2)) ∧
  ∃ r4 : Bool, (((!r3) = false) → CallQ Try.prog 25 #[(.int .i64 v2)] H_11 (.bool r4)) ∧
  ((((!r3) || (!r4))) = true →
  K (.int .i64 11) H_11) ∧
  ((((!r3) || (!r4))) = false →
  ∃ c0_1 : Int, ∃ c1_1 : Bool, ∃ c2_1 : Bool, ∃ c3_1 : Bool, cellsAre H_11 b2 0 [(.int .i64 c0_1), (.bool c1_1), (.bool c2_1), (.bool c3_1)] ∧
  RunW Try.prog (Instr.mapUpdate 45 (.map (some b)) (.int .i64 k2) (.agg #[(.int .i64 c0_1), (.bool c1_1), (.bool c2_1), (.bool c3_1)])) H_11 fun u3 H_12 =>
  Inv H_12 ∧ mu H_12 < mu H_2)) ∧
  ((true) = false →
  canSet H_3 mb (mo + 1) [(.int .i64 now)] ∧
  ∀ H_13 : Heap, H_13 = setAll H_3 mb (mo + 1) [(.int .i64 now)] →
  canSet H_13 mb (mo + 2) [(.int .i64 value)] ∧
  ∀ H_14 : Heap, H_14 = setAll H_13 mb (mo + 2) [(.int .i64 value)] →
  canSet H_14 mb (mo + 3) [(.map (some b))] ∧
  ∀ H_15 : Heap, H_15 = setAll H_14 mb (mo + 3) [(.map (some b))] →
  K (.int .i64 0) H_15))

def mark_Set.code (mb : Nat) (mo : Nat) (now : Int) (value : Int) (agents : Option Nat) (H : Heap) (K : Value → Heap → Prop) : Prop :=
  ∃ r : Bool, CallQ Try.prog 25 #[(.int .i64 now)] H (.bool r) ∧
  (((!r) = false) → True) ∧
  ∃ v : Int, (((!r) = false) → cellAt H mb mo = some (.int .i64 v)) ∧
  (((((!r) || (decide (value < (IntKind.i64.wrap (now - v))))) || (decide (now < value)))) = true →
  K (.int .i64 11) H) ∧
  (((((!r) || (decide (value < (IntKind.i64.wrap (now - v))))) || (decide (now < value)))) = false →
  ∀ (b : Nat) (H_ : Heap), b = H.size → H_ = H.push (.map #[] 0) →
  RunW Try.prog (Instr.range 45 (.map agents)) H_ fun u H_1 =>
  ∃ it : Nat, u = .pointer (some ⟨it, 0, none⟩) ∧
  ∃ (Inv : Heap → Prop) (mu : Heap → Nat), Inv H_1 ∧
  ∀ H_2 : Heap, Inv H_2 → mark_Set.l1 mb mo now value K b it Inv mu H_2)

def mark_Set.ann : Ann := (.seq .reg (.seq (.seq .reg (.cond (.seq .reg .no) .no)) (.seq .reg (.seq (.seq .reg (.blk (.loop [] (.seq .reg (.seq (.cond .no .no) (.blk (.seq .reg (.seq (.seq .reg (.cond (.seq .reg .no) .no)) .reg)))))))) (.seq .reg (.seq .reg .no))))))

theorem mark_Set.eq (mb : Nat) (mo : Nat) (now : Int) (value : Int) (agents : Option Nat) (H : Heap) (K : Value → Heap → Prop) : vcFun (X.nx [(35, .one (.int .i64), .agg [.int .i64, .bool, .bool, .bool])]) Try.f19 mark_Set.ann [(.pointer (some ⟨mb, mo, none⟩)), (.int .i64 now), (.int .i64 value), (.map agents)] H K = mark_Set.code mb mo now value agents H K := by kernel_rfl

theorem mark_Set.call {mb : Nat} {mo : Nat} {now : Int} {value : Int} {agents : Option Nat} {H : Heap} {K : Value → Heap → Prop} (h : mark_Set.code mb mo now value agents H K) : CallF Try.prog 19 #[(.pointer (some ⟨mb, mo, none⟩)), (.int .i64 now), (.int .i64 value), (.map agents)] H K :=
  callF_of_eq (X := (X.nx [(35, .one (.int .i64), .agg [.int .i64, .bool, .bool, .bool])])) X_P X_wide X_bodied Try.func19 (mark_Set.eq mb mo now value agents H K) h

def mark_Hold.code (mb : Nat) (mo : Nat) (agent : Int) (held : Bool) (H : Heap) (K : Value → Heap → Prop) : Prop :=
  ∀ (b : Nat) (H_ : Heap), b = H.size → H_ = H.push (.cells #[(.bool held)] 4) →
  CallF Try.prog 26 #[(.pointer (some ⟨mb, mo, none⟩)), (.int .i64 agent), (.func (.func 34) #[] #[(.pointer (some ⟨b, 0, none⟩))])] H_ fun u H_1 => ∃ r : Int, u = (.int .i64 r) ∧
  K (.int .i64 r) H_1

def mark_Hold.ann : Ann := (.seq .reg (.seq .reg .no))

theorem mark_Hold.eq (mb : Nat) (mo : Nat) (agent : Int) (held : Bool) (H : Heap) (K : Value → Heap → Prop) : vcFun X Try.f18 mark_Hold.ann [(.pointer (some ⟨mb, mo, none⟩)), (.int .i64 agent), (.bool held)] H K = mark_Hold.code mb mo agent held H K := by kernel_rfl

theorem mark_Hold.call {mb : Nat} {mo : Nat} {agent : Int} {held : Bool} {H : Heap} {K : Value → Heap → Prop} (h : mark_Hold.code mb mo agent held H K) : CallF Try.prog 18 #[(.pointer (some ⟨mb, mo, none⟩)), (.int .i64 agent), (.bool held)] H K :=
  callF_of_eq (X := X) X_P X_wide X_bodied Try.func18 (mark_Hold.eq mb mo agent held H K) h

def mark_Leave.code (mb : Nat) (mo : Nat) (agent : Int) (H : Heap) (K : Value → Heap → Prop) : Prop :=
  ∃ v : Option Nat, cellAt H mb (mo + 3) = some (.map v) ∧
  ∃ m0 : Int, ∃ m1 : Bool, ∃ m2 : Bool, ∃ m3 : Bool, ∃ there : Bool, ReadRun Try.prog (Instr.lookup 45 (.map v) (.int .i64 agent) true) H (.tuple #[(.agg #[(.int .i64 m0), (.bool m1), (.bool m2), (.bool m3)]), (.bool there)]) ∧
  ∀ (b : Nat) (H_ : Heap), b = H.size → H_ = H.push (.cells #[(.int .i64 0), (.bool false), (.bool false), (.bool false)] 40) →
  canSet H_ b 0 [(.int .i64 m0), (.bool m1), (.bool m2), (.bool m3)] ∧
  ∀ H_1 : Heap, H_1 = setAll H_ b 0 [(.int .i64 m0), (.bool m1), (.bool m2), (.bool m3)] →
  (((!there)) = true →
  K (.int .i64 19) H_1) ∧
  (((!there)) = false →
  ∃ v1 : Option Nat, cellAt H_1 mb (mo + 3) = some (.map v1) ∧
  RunW Try.prog (Builtin.delete_ #[45, 2] 0 #[(.map v1), (.int .i64 agent)]) H_1 fun u H_2 =>
  K (.int .i64 0) H_2)

def mark_Leave.ann : Ann := (.seq .reg (.seq (.seq .reg (.seq .reg (.cond (.seq .reg .no) .no))) (.seq .reg (.seq .reg .no))))

theorem mark_Leave.eq (mb : Nat) (mo : Nat) (agent : Int) (H : Heap) (K : Value → Heap → Prop) : vcFun X Try.f17 mark_Leave.ann [(.pointer (some ⟨mb, mo, none⟩)), (.int .i64 agent)] H K = mark_Leave.code mb mo agent H K := by kernel_rfl

theorem mark_Leave.call {mb : Nat} {mo : Nat} {agent : Int} {H : Heap} {K : Value → Heap → Prop} (h : mark_Leave.code mb mo agent H K) : CallF Try.prog 17 #[(.pointer (some ⟨mb, mo, none⟩)), (.int .i64 agent)] H K :=
  callF_of_eq (X := X) X_P X_wide X_bodied Try.func17 (mark_Leave.eq mb mo agent H K) h

def mark_Raise.code (mb : Nat) (mo : Nat) (agent : Int) (floor : Int) (H : Heap) (K : Value → Heap → Prop) : Prop :=
  ∀ (b : Nat) (H_ : Heap), b = H.size → H_ = H.push (.cells #[(.int .i64 floor)] 2) →
  CallF Try.prog 26 #[(.pointer (some ⟨mb, mo, none⟩)), (.int .i64 agent), (.func (.func 33) #[] #[(.pointer (some ⟨b, 0, none⟩))])] H_ fun u H_1 => ∃ r : Int, u = (.int .i64 r) ∧
  K (.int .i64 r) H_1

def mark_Raise.ann : Ann := (.seq .reg (.seq .reg .no))

theorem mark_Raise.eq (mb : Nat) (mo : Nat) (agent : Int) (floor : Int) (H : Heap) (K : Value → Heap → Prop) : vcFun X Try.f16 mark_Raise.ann [(.pointer (some ⟨mb, mo, none⟩)), (.int .i64 agent), (.int .i64 floor)] H K = mark_Raise.code mb mo agent floor H K := by kernel_rfl

theorem mark_Raise.call {mb : Nat} {mo : Nat} {agent : Int} {floor : Int} {H : Heap} {K : Value → Heap → Prop} (h : mark_Raise.code mb mo agent floor H K) : CallF Try.prog 16 #[(.pointer (some ⟨mb, mo, none⟩)), (.int .i64 agent), (.int .i64 floor)] H K :=
  callF_of_eq (X := X) X_P X_wide X_bodied Try.func16 (mark_Raise.eq mb mo agent floor H K) h

def mark_Join.code (mb : Nat) (mo : Nat) (agent : Int) (floor : Int) (H : Heap) (K : Value → Heap → Prop) : Prop :=
  ∃ r : Bool, CallQ Try.prog 32 #[(.int .i64 agent)] H (.bool r) ∧
  ∃ r1 : Bool, (((!r) = false) → CallQ Try.prog 25 #[(.int .i64 floor)] H (.bool r1)) ∧
  ((((!r) || (!r1))) = true →
  K (.int .i64 11) H) ∧
  ((((!r) || (!r1))) = false →
  ∃ v : Option Nat, cellAt H mb (mo + 3) = some (.map v) ∧
  ∃ m0 : Int, ∃ m1 : Bool, ∃ m2 : Bool, ∃ m3 : Bool, ∃ there : Bool, ReadRun Try.prog (Instr.lookup 45 (.map v) (.int .i64 agent) true) H (.tuple #[(.agg #[(.int .i64 m0), (.bool m1), (.bool m2), (.bool m3)]), (.bool there)]) ∧
  ∀ (b : Nat) (H_ : Heap), b = H.size → H_ = H.push (.cells #[(.int .i64 0), (.bool false), (.bool false), (.bool false)] 40) →
  canSet H_ b 0 [(.int .i64 m0), (.bool m1), (.bool m2), (.bool m3)] ∧
  ∀ H_1 : Heap, H_1 = setAll H_ b 0 [(.int .i64 m0), (.bool m1), (.bool m2), (.bool m3)] →
  ((there) = true →
  K (.int .i64 18) H_1) ∧
  ((there) = false →
  ∃ v1 : Option Nat, cellAt H_1 mb (mo + 3) = some (.map v1) ∧
  RunW Try.prog (Instr.mapUpdate 45 (.map v1) (.int .i64 agent) (.agg #[(.int .i64 floor), (.bool false), (.bool false), (.bool false)])) H_1 fun u H_2 =>
  K (.int .i64 0) H_2))

def mark_Join.ann : Ann := (.seq .reg (.seq (.seq .reg (.cond (.seq .reg .no) .no)) (.seq (.seq .reg (.seq .reg (.cond (.seq .reg .no) .no))) (.seq .reg (.seq .reg .no)))))

theorem mark_Join.eq (mb : Nat) (mo : Nat) (agent : Int) (floor : Int) (H : Heap) (K : Value → Heap → Prop) : vcFun X Try.f15 mark_Join.ann [(.pointer (some ⟨mb, mo, none⟩)), (.int .i64 agent), (.int .i64 floor)] H K = mark_Join.code mb mo agent floor H K := by kernel_rfl

theorem mark_Join.call {mb : Nat} {mo : Nat} {agent : Int} {floor : Int} {H : Heap} {K : Value → Heap → Prop} (h : mark_Join.code mb mo agent floor H K) : CallF Try.prog 15 #[(.pointer (some ⟨mb, mo, none⟩)), (.int .i64 agent), (.int .i64 floor)] H K :=
  callF_of_eq (X := X) X_P X_wide X_bodied Try.func15 (mark_Join.eq mb mo agent floor H K) h

def mark_Clone.code (mb : Nat) (mo : Nat) (H : Heap) (K : Value → Heap → Prop) : Prop :=
  ∃ c0 : Int, ∃ c1 : Int, ∃ c2 : Int, ∃ c3 : Option Nat, cellsAre H mb mo [(.int .i64 c0), (.int .i64 c1), (.int .i64 c2), (.map c3)] ∧
  ∀ (b : Nat) (H_ : Heap), b = H.size → H_ = H.push (.cells #[(.int .i64 0), (.int .i64 0), (.int .i64 0), (.map none)] 53) →
  canSet H_ b 0 [(.int .i64 c0), (.int .i64 c1), (.int .i64 c2), (.map c3)] ∧
  ∀ H_1 : Heap, H_1 = setAll H_ b 0 [(.int .i64 c0), (.int .i64 c1), (.int .i64 c2), (.map c3)] →
  ∃ v : Option Nat, cellAt H_1 mb (mo + 3) = some (.map v) ∧
  CallF Try.prog 29 #[(.map v)] H_1 fun u H_2 => ∃ r : Option Nat, u = (.map r) ∧
  canSet H_2 b 3 [(.map r)] ∧
  ∀ H_3 : Heap, H_3 = setAll H_2 b 3 [(.map r)] →
  K (.pointer (some ⟨b, 0, none⟩)) H_3

def mark_Clone.ann : Ann := (.seq .reg (.seq .reg (.seq .reg (.seq .reg .no))))

theorem mark_Clone.eq (mb : Nat) (mo : Nat) (H : Heap) (K : Value → Heap → Prop) : vcFun X Try.f14 mark_Clone.ann [(.pointer (some ⟨mb, mo, none⟩))] H K = mark_Clone.code mb mo H K := by kernel_rfl

theorem mark_Clone.call {mb : Nat} {mo : Nat} {H : Heap} {K : Value → Heap → Prop} (h : mark_Clone.code mb mo H K) : CallF Try.prog 14 #[(.pointer (some ⟨mb, mo, none⟩))] H K :=
  callF_of_eq (X := X) X_P X_wide X_bodied Try.func14 (mark_Clone.eq mb mo H K) h

def mark_All.code (mb : Nat) (mo : Nat) (H : Heap) (K : Value → Heap → Prop) : Prop :=
  ∀ (b : Nat) (H_ : Heap), b = H.size → H_ = H.push (.cells #[(.pointer (some ⟨mb, mo, none⟩))] 24) →
  K (.func (.func 28) #[] #[(.pointer (some ⟨b, 0, none⟩))]) H_

def mark_All.ann : Ann := (.seq .reg (.seq .reg .no))

theorem mark_All.eq (mb : Nat) (mo : Nat) (H : Heap) (K : Value → Heap → Prop) : vcFun X Try.f13 mark_All.ann [(.pointer (some ⟨mb, mo, none⟩))] H K = mark_All.code mb mo H K := by kernel_rfl

theorem mark_All.call {mb : Nat} {mo : Nat} {H : Heap} {K : Value → Heap → Prop} (h : mark_All.code mb mo H K) : CallF Try.prog 13 #[(.pointer (some ⟨mb, mo, none⟩))] H K :=
  callF_of_eq (X := X) X_P X_wide X_bodied Try.func13 (mark_All.eq mb mo H K) h

def mark_Tick.y1 (b : Nat) (b1 : Nat) (leastb : Nat) (leasto : Nat) (foundb : Nat) (foundo : Nat) (H_4 : Heap) (R : Loop) (vs : List Value) (H_5 : Heap) (K_ : Value → Heap → Prop) : Prop :=
  ∃ y : Int, ∃ y0 : Int, ∃ y1 : Bool, ∃ y2 : Bool, ∃ y3 : Bool, vs = [(.int .i64 y), (.agg #[(.int .i64 y0), (.bool y1), (.bool y2), (.bool y3)])] ∧
  H_5[H_4.size + 1]? = some (.loop R) ∧
  H_5[H_4.size + 1]? = some (.loop R) ∧
  ∀ H_6 : Heap, H_6 = setLoop H_5 (H_4.size + 1) { R with state := .busy } →
  ∃ v7 : Option Addr, cellAt H_6 b 0 = some (.pointer v7) ∧
  CallF Try.prog 26 #[(.pointer v7), (.int .i64 y), (.func (.func 27) #[] #[(.pointer (some ⟨b1, 0, none⟩)), (.pointer (some ⟨b, 0, none⟩)), (.pointer (some ⟨foundb, foundo, none⟩)), (.pointer (some ⟨leastb, leasto, none⟩))])] H_6 fun u1 H_7 => ∃ r1 : Int, u1 = (.int .i64 r1) ∧
  H_7[H_4.size + 1]? = some (.loop { R with state := .busy }) ∧ K_ (.bool true) (setLoop H_7 (H_4.size + 1) R)

def mark_Tick.r2 (K : Value → Heap → Prop) (b : Nat) (b1 : Nat) (leastb : Nat) (leasto : Nat) (foundb : Nat) (foundo : Nat) (H_3 : Heap) : Prop :=
  ∃ v6 : Option Addr, cellAt H_3 b 0 = some (.pointer v6) ∧
  CallF Try.prog 13 #[(.pointer v6)] H_3 fun u H_4 => ∃ rf : FuncId, ∃ rl : List Value, u = (.func (.func rf) #[] ⟨rl⟩) ∧
  memN rf X.calls = true ∧
  ∀ R : Loop, R.state = .ready → R.pending = none →
  (∀ (vs : List Value) (H_5 : Heap) (K_ : Value → Heap → Prop), mark_Tick.y1 b b1 leastb leasto foundb foundo H_4 R vs H_5 K_ → YieldF Try.prog (H_4.size + 1) vs H_5 K_) →
  CallF Try.prog rf ⟨(.func (.yield (H_4.size + 1)) #[] #[]) :: rl⟩ ((H_4.push (.deferred (some []))).push (.loop R)) fun u2 H_8 => ∃ (st : LoopState) (pd : Option Code), st ≠ .busy ∧ H_8[H_4.size + 1]? = some (.loop { R with state := st, pending := pd }) ∧
  ∀ H_9 : Heap, H_9 = setLoop H_8 (H_4.size + 1) { R with state := .exhausted, pending := pd } →
  pd = none ∧
  ∃ v8 : Option Addr, cellAt H_9 b 0 = some (.pointer v8) ∧
  ∃ v9 : Option Addr, cellAt H_9 b 0 = some (.pointer v9) ∧
  NN v9 (
  ∃ v10 : Int, cellAt H_9 (adrB v9) ((adrO v9) + 2) = some (.int .i64 v10) ∧
  ∃ v11 : Int, cellAt H_9 leastb leasto = some (.int .i64 v11) ∧
  NN v8 (
  canSet H_9 (adrB v8) ((adrO v8) + 2) [(.int .i64 (if v11 > v10 then v11 else v10))] ∧
  ∀ H_10 : Heap, H_10 = setAll H_9 (adrB v8) ((adrO v8) + 2) [(.int .i64 (if v11 > v10 then v11 else v10))] →
  H_10[H_4.size]? = some (.deferred (some [])) ∧
  K (.int .i64 0) (H_10.setIfInBounds H_4.size (.deferred none))))

def mark_Tick.code (mb : Nat) (mo : Nat) (now : Int) (H : Heap) (K : Value → Heap → Prop) : Prop :=
  ∀ (b : Nat) (H_ : Heap), b = H.size → H_ = H.push (.cells #[(.pointer (some ⟨mb, mo, none⟩))] 24) →
  ∀ (b1 : Nat) (H_1 : Heap), b1 = H_.size → H_1 = H_.push (.cells #[(.int .i64 now)] 2) →
  ∃ v : Int, cellAt H_1 b1 0 = some (.int .i64 v) ∧
  ∃ r : Bool, CallQ Try.prog 25 #[(.int .i64 v)] H_1 (.bool r) ∧
  ∃ v1 : Int, (((!r) = false) → cellAt H_1 b1 0 = some (.int .i64 v1)) ∧
  ∃ v2 : Option Addr, (((!r) = false) → cellAt H_1 b 0 = some (.pointer v2)) ∧
  (((!r) = false) → isA v2) ∧
  ∃ v3 : Int, (((!r) = false) → cellAt H_1 (adrB v2) ((adrO v2) + 1) = some (.int .i64 v3)) ∧
  ((((!r) || (decide (v1 < v3)))) = true →
  K (.int .i64 11) H_1) ∧
  ((((!r) || (decide (v1 < v3)))) = false →
  ∃ v4 : Option Addr, cellAt H_1 b 0 = some (.pointer v4) ∧
  ∃ v5 : Int, cellAt H_1 b1 0 = some (.int .i64 v5) ∧
  NN v4 (
  canSet H_1 (adrB v4) ((adrO v4) + 1) [(.int .i64 v5)] ∧
  ∀ H_2 : Heap, H_2 = setAll H_1 (adrB v4) ((adrO v4) + 1) [(.int .i64 v5)] →
  ∀ Jn : Nat → Nat → Nat → Nat → Heap → Prop, (∀ (leastb : Nat) (leasto : Nat) (foundb : Nat) (foundo : Nat), ∀ H_3 : Heap, mark_Tick.r2 K b b1 leastb leasto foundb foundo H_3 → Jn leastb leasto foundb foundo H_3) →
  ∃ v12 : Int, cellAt H_2 b1 0 = some (.int .i64 v12) ∧
  ∃ v13 : Option Addr, cellAt H_2 b 0 = some (.pointer v13) ∧
  NN v13 (
  ∃ v14 : Int, cellAt H_2 (adrB v13) (adrO v13) = some (.int .i64 v14) ∧
  (∀ (b2 : Nat) (H_11 : Heap), b2 = H_2.size → H_11 = H_2.push (.cells #[(.int .i64 0)] 2) →
  cellAt H_11 (adrB v13) (adrO v13) = some (.int .i64 v14) ∧
  cellAt H_11 b 0 = some (.pointer v13) ∧
  cellAt H_11 b1 0 = some (.int .i64 v12) ∧
  ∀ (b3 : Nat) (H_12 : Heap), b3 = H_11.size → H_12 = H_11.push (.cells #[(.bool false)] 4) →
  cellAt H_12 (adrB v13) (adrO v13) = some (.int .i64 v14) ∧
  cellAt H_12 b 0 = some (.pointer v13) ∧
  cellAt H_12 b1 0 = some (.int .i64 v12) ∧
  canSet H_12 b2 0 [(.int .i64 (IntKind.i64.wrap (v12 - v14)))] ∧
  ∀ H_13 : Heap, H_13 = setAll H_12 b2 0 [(.int .i64 (IntKind.i64.wrap (v12 - v14)))] →
  canSet H_13 b3 0 [(.bool false)] ∧
  ∀ H_14 : Heap, H_14 = setAll H_13 b3 0 [(.bool false)] →
  Jn b2 0 b3 0 H_14) ∧
  (∀ (b4 : Nat) (H_15 : Heap), b4 = H_2.size → H_15 = H_2.push (.cells #[(.bool false)] 4) →
  cellAt H_15 (adrB v13) (adrO v13) = some (.int .i64 v14) ∧
  cellAt H_15 b 0 = some (.pointer v13) ∧
  cellAt H_15 b1 0 = some (.int .i64 v12) ∧
  ∀ (b5 : Nat) (H_16 : Heap), b5 = H_15.size → H_16 = H_15.push (.cells #[(.int .i64 0)] 2) →
  cellAt H_16 (adrB v13) (adrO v13) = some (.int .i64 v14) ∧
  cellAt H_16 b 0 = some (.pointer v13) ∧
  cellAt H_16 b1 0 = some (.int .i64 v12) ∧
  canSet H_16 b5 0 [(.int .i64 (IntKind.i64.wrap (v12 - v14)))] ∧
  ∀ H_17 : Heap, H_17 = setAll H_16 b5 0 [(.int .i64 (IntKind.i64.wrap (v12 - v14)))] →
  canSet H_17 b4 0 [(.bool false)] ∧
  ∀ H_18 : Heap, H_18 = setAll H_17 b4 0 [(.bool false)] →
  Jn b5 0 b4 0 H_18))))

def mark_Tick.ann : Ann := (.seq .reg (.seq (.seq .reg (.cond (.seq .reg .no) .no)) (.seq .reg (.seq (.regJ [(5, .one (.adr)), (6, .one (.adr))]) (.seq (.seq .reg (.blk (.rng [.one (.int .i64), .agg [.int .i64, .bool, .bool, .bool]] [none] .reg (.blk .reg)))) (.seq .reg (.seq .reg .no)))))))

theorem mark_Tick.eq (mb : Nat) (mo : Nat) (now : Int) (H : Heap) (K : Value → Heap → Prop) : vcFun X Try.f12 mark_Tick.ann [(.pointer (some ⟨mb, mo, none⟩)), (.int .i64 now)] H K = mark_Tick.code mb mo now H K := by kernel_rfl

theorem mark_Tick.call {mb : Nat} {mo : Nat} {now : Int} {H : Heap} {K : Value → Heap → Prop} (h : mark_Tick.code mb mo now H K) : CallF Try.prog 12 #[(.pointer (some ⟨mb, mo, none⟩)), (.int .i64 now)] H K :=
  callF_of_eq (X := X) X_P X_wide X_bodied Try.func12 (mark_Tick.eq mb mo now H K) h

def mark_Of.code (mb : Nat) (mo : Nat) (agent : Int) (H : Heap) (K : Value → Heap → Prop) : Prop :=
  ∀ (b : Nat) (H_ : Heap), b = H.size → H_ = H.push (.cells #[(.int .i64 0), (.bool false), (.bool false), (.bool false)] 40) →
  ∃ v : Option Nat, cellAt H_ mb (mo + 3) = some (.map v) ∧
  ∃ m0 : Int, ∃ m1 : Bool, ∃ m2 : Bool, ∃ m3 : Bool, ∃ there : Bool, ReadRun Try.prog (Instr.lookup 45 (.map v) (.int .i64 agent) true) H_ (.tuple #[(.agg #[(.int .i64 m0), (.bool m1), (.bool m2), (.bool m3)]), (.bool there)]) ∧
  ∀ (b1 : Nat) (H_1 : Heap), b1 = H_.size → H_1 = H_.push (.cells #[(.int .i64 0), (.bool false), (.bool false), (.bool false)] 40) →
  canSet H_1 b1 0 [(.int .i64 m0), (.bool m1), (.bool m2), (.bool m3)] ∧
  ∀ H_2 : Heap, H_2 = setAll H_1 b1 0 [(.int .i64 m0), (.bool m1), (.bool m2), (.bool m3)] →
  ∃ c0 : Int, ∃ c1 : Bool, ∃ c2 : Bool, ∃ c3 : Bool, cellsAre H_2 b1 0 [(.int .i64 c0), (.bool c1), (.bool c2), (.bool c3)] ∧
  canSet H_2 b 0 [(.int .i64 c0), (.bool c1), (.bool c2), (.bool c3)] ∧
  ∀ H_3 : Heap, H_3 = setAll H_2 b 0 [(.int .i64 c0), (.bool c1), (.bool c2), (.bool c3)] →
  ∃ res0 : Int, ∃ res1 : Bool, ∃ res2 : Bool, ∃ res3 : Bool, cellsAre H_3 b 0 [(.int .i64 res0), (.bool res1), (.bool res2), (.bool res3)] ∧
  K (.tuple #[(.agg #[(.int .i64 res0), (.bool res1), (.bool res2), (.bool res3)]), (.bool there)]) H_3

def mark_Of.ann : Ann := (.seq .reg (.seq .reg (.seq .reg .no)))

theorem mark_Of.eq (mb : Nat) (mo : Nat) (agent : Int) (H : Heap) (K : Value → Heap → Prop) : vcFun X Try.f11 mark_Of.ann [(.pointer (some ⟨mb, mo, none⟩)), (.int .i64 agent)] H K = mark_Of.code mb mo agent H K := by kernel_rfl

theorem mark_Of.call {mb : Nat} {mo : Nat} {agent : Int} {H : Heap} {K : Value → Heap → Prop} (h : mark_Of.code mb mo agent H K) : CallF Try.prog 11 #[(.pointer (some ⟨mb, mo, none⟩)), (.int .i64 agent)] H K :=
  callF_of_eq (X := X) X_P X_wide X_bodied Try.func11 (mark_Of.eq mb mo agent H K) h

def Do.code (mb : Nat) (mo : Nat) (rb : Nat) (ro : Nat) (c0 : Int) (c1 : Int) (c2 : Int) (c3 : Bool) (H : Heap) (K : Value → Heap → Prop) : Prop :=
  ∀ (b : Nat) (H_ : Heap), b = H.size → H_ = H.push (.cells #[(.int .i64 c0), (.int .i64 c1), (.int .i64 c2), (.bool c3)] 29) →
  ∃ v : Int, cellAt H_ b 0 = some (.int .i64 v) ∧
  (((decide (v = 0))) = true →
  ∃ v1 : Int, cellAt H_ b 1 = some (.int .i64 v1) ∧
  ∃ v2 : Int, cellAt H_ b 2 = some (.int .i64 v2) ∧
  ∃ v3 : Int, cellAt H_ b 1 = some (.int .i64 v3) ∧
  ∃ v4 : Int, cellAt H_ b 2 = some (.int .i64 v4) ∧
  CallF Try.prog 15 #[(.pointer (some ⟨mb, mo, none⟩)), (.int .i64 v1), (.int .i64 v2)] H_ fun u H_1 => ∃ r : Int, u = (.int .i64 r) ∧
  cellAt H_1 b 2 = some (.int .i64 v4) ∧
  cellAt H_1 b 1 = some (.int .i64 v3) ∧
  CallF Try.prog 20 #[(.pointer (some ⟨rb, ro, none⟩)), (.int .i64 v3), (.int .i64 v4)] H_1 fun u1 H_2 => ∃ r1 : Int, u1 = (.int .i64 r1) ∧
  K (.bool (decide (r = r1))) H_2) ∧
  (((decide (v = 0))) = false →
  (((decide (v = 1))) = true →
  ∃ v5 : Int, cellAt H_ b 1 = some (.int .i64 v5) ∧
  ∃ v6 : Int, cellAt H_ b 2 = some (.int .i64 v6) ∧
  ∃ v7 : Int, cellAt H_ b 1 = some (.int .i64 v7) ∧
  ∃ v8 : Int, cellAt H_ b 2 = some (.int .i64 v8) ∧
  CallF Try.prog 16 #[(.pointer (some ⟨mb, mo, none⟩)), (.int .i64 v5), (.int .i64 v6)] H_ fun u2 H_3 => ∃ r2 : Int, u2 = (.int .i64 r2) ∧
  cellAt H_3 b 2 = some (.int .i64 v8) ∧
  cellAt H_3 b 1 = some (.int .i64 v7) ∧
  CallF Try.prog 21 #[(.pointer (some ⟨rb, ro, none⟩)), (.int .i64 v7), (.int .i64 v8)] H_3 fun u3 H_4 => ∃ r3 : Int, u3 = (.int .i64 r3) ∧
  K (.bool (decide (r2 = r3))) H_4) ∧
  (((decide (v = 1))) = false →
  (((decide (v = 2))) = true →
  ∃ v9 : Int, cellAt H_ b 1 = some (.int .i64 v9) ∧
  ∃ v10 : Bool, cellAt H_ b 3 = some (.bool v10) ∧
  ∃ v11 : Int, cellAt H_ b 1 = some (.int .i64 v11) ∧
  ∃ v12 : Bool, cellAt H_ b 3 = some (.bool v12) ∧
  CallF Try.prog 18 #[(.pointer (some ⟨mb, mo, none⟩)), (.int .i64 v9), (.bool v10)] H_ fun u4 H_5 => ∃ r4 : Int, u4 = (.int .i64 r4) ∧
  cellAt H_5 b 3 = some (.bool v12) ∧
  cellAt H_5 b 1 = some (.int .i64 v11) ∧
  CallF Try.prog 22 #[(.pointer (some ⟨rb, ro, none⟩)), (.int .i64 v11), (.bool v12)] H_5 fun u5 H_6 => ∃ r5 : Int, u5 = (.int .i64 r5) ∧
  K (.bool (decide (r4 = r5))) H_6) ∧
  (((decide (v = 2))) = false →
  (((decide (v = 3))) = true →
  ∃ v13 : Int, cellAt H_ b 1 = some (.int .i64 v13) ∧
  ∃ v14 : Int, cellAt H_ b 1 = some (.int .i64 v14) ∧
  CallF Try.prog 17 #[(.pointer (some ⟨mb, mo, none⟩)), (.int .i64 v13)] H_ fun u6 H_7 => ∃ r6 : Int, u6 = (.int .i64 r6) ∧
  cellAt H_7 b 1 = some (.int .i64 v14) ∧
  CallF Try.prog 23 #[(.pointer (some ⟨rb, ro, none⟩)), (.int .i64 v14)] H_7 fun u7 H_8 => ∃ r7 : Int, u7 = (.int .i64 r7) ∧
  K (.bool (decide (r6 = r7))) H_8) ∧
  (((decide (v = 3))) = false →
  (((decide (v = 4))) = true →
  ∃ v15 : Int, cellAt H_ b 2 = some (.int .i64 v15) ∧
  ∃ v16 : Int, cellAt H_ b 2 = some (.int .i64 v16) ∧
  CallF Try.prog 12 #[(.pointer (some ⟨mb, mo, none⟩)), (.int .i64 v15)] H_ fun u8 H_9 => ∃ r8 : Int, u8 = (.int .i64 r8) ∧
  cellAt H_9 b 2 = some (.int .i64 v16) ∧
  CallF Try.prog 24 #[(.pointer (some ⟨rb, ro, none⟩)), (.int .i64 v16)] H_9 fun u9 H_10 => ∃ r9 : Int, u9 = (.int .i64 r9) ∧
  K (.bool (decide (r8 = r9))) H_10) ∧
  (((decide (v = 4))) = false →
  K (.bool true) H_)))))

def Do.ann : Ann := (.seq .reg (.seq (.seq .reg (.blk (.seq .reg (.cond (.seq .reg .no) (.seq .reg (.cond (.seq .reg .no) (.seq .reg (.cond (.seq .reg .no) (.seq .reg (.cond (.seq .reg .no) (.seq .reg (.cond (.seq .reg .no) .no)))))))))))) (.seq .reg .no)))

theorem Do.eq (mb : Nat) (mo : Nat) (rb : Nat) (ro : Nat) (c0 : Int) (c1 : Int) (c2 : Int) (c3 : Bool) (H : Heap) (K : Value → Heap → Prop) : vcFun X Try.f10 Do.ann [(.pointer (some ⟨mb, mo, none⟩)), (.pointer (some ⟨rb, ro, none⟩)), (.agg #[(.int .i64 c0), (.int .i64 c1), (.int .i64 c2), (.bool c3)])] H K = Do.code mb mo rb ro c0 c1 c2 c3 H K := by kernel_rfl

theorem Do.call {mb : Nat} {mo : Nat} {rb : Nat} {ro : Nat} {c0 : Int} {c1 : Int} {c2 : Int} {c3 : Bool} {H : Heap} {K : Value → Heap → Prop} (h : Do.code mb mo rb ro c0 c1 c2 c3 H K) : CallF Try.prog 10 #[(.pointer (some ⟨mb, mo, none⟩)), (.pointer (some ⟨rb, ro, none⟩)), (.agg #[(.int .i64 c0), (.int .i64 c1), (.int .i64 c2), (.bool c3)])] H K :=
  callF_of_eq (X := X) X_P X_wide X_bodied Try.func10 (Do.eq mb mo rb ro c0 c1 c2 c3 H K) h

def mark_Now.code (mb : Nat) (mo : Nat) (H : Heap) (K : Value → Heap → Prop) : Prop :=
  ∃ v : Int, cellAt H mb (mo + 1) = some (.int .i64 v) ∧
  K (.int .i64 v) H

def mark_Now.ann : Ann := (.seq .reg (.seq .reg .no))

theorem mark_Now.eq (mb : Nat) (mo : Nat) (H : Heap) (K : Value → Heap → Prop) : vcFun X Try.f9 mark_Now.ann [(.pointer (some ⟨mb, mo, none⟩))] H K = mark_Now.code mb mo H K := by kernel_rfl

theorem mark_Now.call {mb : Nat} {mo : Nat} {H : Heap} {K : Value → Heap → Prop} (h : mark_Now.code mb mo H K) : CallF Try.prog 9 #[(.pointer (some ⟨mb, mo, none⟩))] H K :=
  callF_of_eq (X := X) X_P X_wide X_bodied Try.func9 (mark_Now.eq mb mo H K) h

def mark_Value.code (mb : Nat) (mo : Nat) (H : Heap) (K : Value → Heap → Prop) : Prop :=
  ∃ v : Int, cellAt H mb (mo + 2) = some (.int .i64 v) ∧
  K (.int .i64 v) H

def mark_Value.ann : Ann := (.seq .reg (.seq .reg .no))

theorem mark_Value.eq (mb : Nat) (mo : Nat) (H : Heap) (K : Value → Heap → Prop) : vcFun X Try.f8 mark_Value.ann [(.pointer (some ⟨mb, mo, none⟩))] H K = mark_Value.code mb mo H K := by kernel_rfl

theorem mark_Value.call {mb : Nat} {mo : Nat} {H : Heap} {K : Value → Heap → Prop} (h : mark_Value.code mb mo H K) : CallF Try.prog 8 #[(.pointer (some ⟨mb, mo, none⟩))] H K :=
  callF_of_eq (X := X) X_P X_wide X_bodied Try.func8 (mark_Value.eq mb mo H K) h

def mark_New.code (lag : Int) (H : Heap) (K : Value → Heap → Prop) : Prop :=
  ((((decide (lag < 1)) || (decide (1099511627776 < lag)))) = true →
  K (.tuple #[(.pointer none), (.int .i64 11)]) H) ∧
  ((((decide (lag < 1)) || (decide (1099511627776 < lag)))) = false →
  ∀ (b : Nat) (H_ : Heap), b = H.size → H_ = H.push (.map #[] 0) →
  ∀ (b1 : Nat) (H_1 : Heap), b1 = H_.size → H_1 = H_.push (.cells #[(.int .i64 lag), (.int .i64 0), (.int .i64 (IntKind.i64.wrap (0 - lag))), (.map (some b))] 53) →
  K (.tuple #[(.pointer (some ⟨b1, 0, none⟩)), (.int .i64 0)]) H_1)

def mark_New.ann : Ann := (.seq .reg (.seq (.seq .reg (.cond (.seq .reg .no) .no)) (.seq .reg .no)))

theorem mark_New.eq (lag : Int) (H : Heap) (K : Value → Heap → Prop) : vcFun X Try.f7 mark_New.ann [(.int .i64 lag)] H K = mark_New.code lag H K := by kernel_rfl

theorem mark_New.call {lag : Int} {H : Heap} {K : Value → Heap → Prop} (h : mark_New.code lag H K) : CallF Try.prog 7 #[(.int .i64 lag)] H K :=
  callF_of_eq (X := X) X_P X_wide X_bodied Try.func7 (mark_New.eq lag H K) h

def alive.y1 (b1 : Nat) (H_14 : Heap) (R : Loop) (vs : List Value) (H_15 : Heap) (K_ : Value → Heap → Prop) : Prop :=
  ∃ y : Int, ∃ y0 : Int, ∃ y1 : Bool, ∃ y2 : Bool, ∃ y3 : Bool, vs = [(.int .i64 y), (.agg #[(.int .i64 y0), (.bool y1), (.bool y2), (.bool y3)])] ∧
  H_15[H_14.size + 1]? = some (.loop R) ∧
  ∀ (b2 : Nat) (H_16 : Heap), b2 = H_15.size → H_16 = H_15.push (.cells #[(.int .i64 0), (.bool false), (.bool false), (.bool false)] 40) →
  canSet H_16 b2 0 [(.int .i64 y0), (.bool y1), (.bool y2), (.bool y3)] ∧
  ∀ H_17 : Heap, H_17 = setAll H_16 b2 0 [(.int .i64 y0), (.bool y1), (.bool y2), (.bool y3)] →
  H_17[H_14.size + 1]? = some (.loop R) ∧
  ∀ H_18 : Heap, H_18 = setLoop H_17 (H_14.size + 1) { R with state := .busy } →
  ∃ v : Int, cellAt H_18 b1 0 = some (.int .i64 v) ∧
  ∃ v1 : Int, cellAt H_18 b2 0 = some (.int .i64 v1) ∧
  canSet H_18 b1 0 [(.int .i64 (IntKind.i64.wrap (v + (IntKind.i64.wrap ((IntKind.i64.wrap (1000 * y)) + v1)))))] ∧
  ∀ H_19 : Heap, H_19 = setAll H_18 b1 0 [(.int .i64 (IntKind.i64.wrap (v + (IntKind.i64.wrap ((IntKind.i64.wrap (1000 * y)) + v1)))))] →
  H_19[H_14.size + 1]? = some (.loop { R with state := .busy }) ∧ K_ (.bool true) (setLoop H_19 (H_14.size + 1) R)

def alive.code  (H : Heap) (K : Value → Heap → Prop) : Prop :=
  CallF Try.prog 7 #[(.int .i64 100)] H fun u H_ => ∃ r : Option Addr, ∃ r1 : Int, u = (.tuple #[(.pointer r), (.int .i64 r1)]) ∧
  ((((!decide (r1 = 0)) || r.isNone)) = true →
  K (.bool false) H_) ∧
  ((((!decide (r1 = 0)) || r.isNone)) = false →
  ∃ r2 : Int, CallQ Try.prog 8 #[(.pointer r)] H_ (.int .i64 r2) ∧
  CallF Try.prog 15 #[(.pointer r), (.int .i64 3), (.int .i64 50)] H_ fun u1 H_1 => ∃ r3 : Int, u1 = (.int .i64 r3) ∧
  CallF Try.prog 12 #[(.pointer r), (.int .i64 120)] H_1 fun u2 H_2 => ∃ r4 : Int, u2 = (.int .i64 r4) ∧
  ∃ r5 : Int, CallQ Try.prog 8 #[(.pointer r)] H_2 (.int .i64 r5) ∧
  CallF Try.prog 14 #[(.pointer r)] H_2 fun u3 H_3 => ∃ r6 : Option Addr, u3 = (.pointer r6) ∧
  CallF Try.prog 12 #[(.pointer r), (.int .i64 151)] H_3 fun u4 H_4 => ∃ r7 : Int, u4 = (.int .i64 r7) ∧
  CallF Try.prog 11 #[(.pointer r), (.int .i64 3)] H_4 fun u5 H_5 => ∃ r0 : Int, ∃ r1_1 : Bool, ∃ r2_1 : Bool, ∃ r3_1 : Bool, ∃ r8 : Bool, u5 = (.tuple #[(.agg #[(.int .i64 r0), (.bool r1_1), (.bool r2_1), (.bool r3_1)]), (.bool r8)]) ∧
  ∀ (b : Nat) (H_6 : Heap), b = H_5.size → H_6 = H_5.push (.cells #[(.int .i64 0), (.bool false), (.bool false), (.bool false)] 40) →
  canSet H_6 b 0 [(.int .i64 r0), (.bool r1_1), (.bool r2_1), (.bool r3_1)] ∧
  ∀ H_7 : Heap, H_7 = setAll H_6 b 0 [(.int .i64 r0), (.bool r1_1), (.bool r2_1), (.bool r3_1)] →
  CallF Try.prog 16 #[(.pointer r), (.int .i64 3), (.int .i64 140)] H_7 fun u6 H_8 => ∃ r9 : Int, u6 = (.int .i64 r9) ∧
  CallF Try.prog 12 #[(.pointer r), (.int .i64 160)] H_8 fun u7 H_9 => ∃ r10 : Int, u7 = (.int .i64 r10) ∧
  CallF Try.prog 12 #[(.pointer r), (.int .i64 159)] H_9 fun u8 H_10 => ∃ r11 : Int, u8 = (.int .i64 r11) ∧
  CallF Try.prog 17 #[(.pointer r), (.int .i64 4)] H_10 fun u9 H_11 => ∃ r12 : Int, u9 = (.int .i64 r12) ∧
  ((r6.isNone) = true →
  K (.bool false) H_11) ∧
  ((r6.isNone) = false →
  ∀ (b1 : Nat) (H_12 : Heap), b1 = H_11.size → H_12 = H_11.push (.cells #[(.int .i64 0)] 2) →
  canSet H_12 b1 0 [(.int .i64 0)] ∧
  ∀ H_13 : Heap, H_13 = setAll H_12 b1 0 [(.int .i64 0)] →
  CallF Try.prog 13 #[(.pointer r)] H_13 fun u10 H_14 => ∃ rf : FuncId, ∃ rl : List Value, u10 = (.func (.func rf) #[] ⟨rl⟩) ∧
  memN rf X.calls = true ∧
  ∀ R : Loop, R.state = .ready → R.pending = none →
  (∀ (vs : List Value) (H_15 : Heap) (K_ : Value → Heap → Prop), alive.y1 b1 H_14 R vs H_15 K_ → YieldF Try.prog (H_14.size + 1) vs H_15 K_) →
  CallF Try.prog rf ⟨(.func (.yield (H_14.size + 1)) #[] #[]) :: rl⟩ ((H_14.push (.deferred (some []))).push (.loop R)) fun u11 H_20 => ∃ (st : LoopState) (pd : Option Code), st ≠ .busy ∧ H_20[H_14.size + 1]? = some (.loop { R with state := st, pending := pd }) ∧
  ∀ H_21 : Heap, H_21 = setLoop H_20 (H_14.size + 1) { R with state := .exhausted, pending := pd } →
  pd = none ∧
  CallF Try.prog 18 #[(.pointer r6), (.int .i64 3), (.bool true)] H_21 fun u12 H_22 => ∃ r13 : Int, u12 = (.int .i64 r13) ∧
  CallF Try.prog 17 #[(.pointer r6), (.int .i64 3)] H_22 fun u13 H_23 => ∃ r14 : Int, u13 = (.int .i64 r14) ∧
  ∀ (b3 : Nat) (H_24 : Heap), b3 = H_23.size → H_24 = H_23.push (.map #[] 0) →
  RunW Try.prog (Instr.mapUpdate 45 (.map (some b3)) (.int .i64 1) (.agg #[(.int .i64 7), (.bool false), (.bool false), (.bool false)])) H_24 fun u14 H_25 =>
  CallF Try.prog 19 #[(.pointer r6), (.int .i64 9), (.int .i64 5), (.map (some b3))] H_25 fun u15 H_26 => ∃ r15 : Int, u15 = (.int .i64 r15) ∧
  ∃ v2 : Bool, ((((((((decide (r2 = (-100))) && (decide (r3 = 0))) && (decide (r4 = 0))) && (decide (r5 = 50))) && (decide (r7 = 0))) && r8) = true) → cellAt H_26 b 1 = some (.bool v2)) ∧
  ∃ v3 : Bool, (((((((((decide (r2 = (-100))) && (decide (r3 = 0))) && (decide (r4 = 0))) && (decide (r5 = 50))) && (decide (r7 = 0))) && r8) && v2) = true) → cellAt H_26 b 2 = some (.bool v3)) ∧
  ∃ v4 : Int, ((((((((((((((decide (r2 = (-100))) && (decide (r3 = 0))) && (decide (r4 = 0))) && (decide (r5 = 50))) && (decide (r7 = 0))) && r8) && v2) && v3) && (decide (r9 = 0))) && (decide (r10 = 0))) && (decide (r11 = 11))) && (decide (r12 = 19))) = true) → cellAt H_26 b1 0 = some (.int .i64 v4)) ∧
  ∃ r16 : Int, (((((((((((((((decide (r2 = (-100))) && (decide (r3 = 0))) && (decide (r4 = 0))) && (decide (r5 = 50))) && (decide (r7 = 0))) && r8) && v2) && v3) && (decide (r9 = 0))) && (decide (r10 = 0))) && (decide (r11 = 11))) && (decide (r12 = 19))) && (decide (v4 = 3140))) = true) → CallQ Try.prog 8 #[(.pointer r)] H_26 (.int .i64 r16)) ∧
  ∃ r17 : Int, ((((((((((((((((decide (r2 = (-100))) && (decide (r3 = 0))) && (decide (r4 = 0))) && (decide (r5 = 50))) && (decide (r7 = 0))) && r8) && v2) && v3) && (decide (r9 = 0))) && (decide (r10 = 0))) && (decide (r11 = 11))) && (decide (r12 = 19))) && (decide (v4 = 3140))) && (decide (r16 = 140))) = true) → CallQ Try.prog 9 #[(.pointer r)] H_26 (.int .i64 r17)) ∧
  ∃ r18 : Int, ((((((((((((((((((((decide (r2 = (-100))) && (decide (r3 = 0))) && (decide (r4 = 0))) && (decide (r5 = 50))) && (decide (r7 = 0))) && r8) && v2) && v3) && (decide (r9 = 0))) && (decide (r10 = 0))) && (decide (r11 = 11))) && (decide (r12 = 19))) && (decide (v4 = 3140))) && (decide (r16 = 140))) && (decide (r17 = 160))) && (decide (r13 = 0))) && (decide (r14 = 0))) && (decide (r15 = 0))) = true) → CallQ Try.prog 9 #[(.pointer r6)] H_26 (.int .i64 r18)) ∧
  ∃ r19 : Int, (((((((((((((((((((((decide (r2 = (-100))) && (decide (r3 = 0))) && (decide (r4 = 0))) && (decide (r5 = 50))) && (decide (r7 = 0))) && r8) && v2) && v3) && (decide (r9 = 0))) && (decide (r10 = 0))) && (decide (r11 = 11))) && (decide (r12 = 19))) && (decide (v4 = 3140))) && (decide (r16 = 140))) && (decide (r17 = 160))) && (decide (r13 = 0))) && (decide (r14 = 0))) && (decide (r15 = 0))) && (decide (r18 = 9))) = true) → CallQ Try.prog 8 #[(.pointer r6)] H_26 (.int .i64 r19)) ∧
  H_26[H_14.size]? = some (.deferred (some [])) ∧
  K (.bool ((((((((((((((((((((decide (r2 = (-100))) && (decide (r3 = 0))) && (decide (r4 = 0))) && (decide (r5 = 50))) && (decide (r7 = 0))) && r8) && v2) && v3) && (decide (r9 = 0))) && (decide (r10 = 0))) && (decide (r11 = 11))) && (decide (r12 = 19))) && (decide (v4 = 3140))) && (decide (r16 = 140))) && (decide (r17 = 160))) && (decide (r13 = 0))) && (decide (r14 = 0))) && (decide (r15 = 0))) && (decide (r18 = 9))) && (decide (r19 = 5)))) (H_26.setIfInBounds H_14.size (.deferred none))))

def alive.ann : Ann := (.seq .reg (.seq .reg (.seq (.seq .reg (.cond (.seq .reg .no) .no)) (.seq .reg (.seq .reg (.seq .reg (.seq .reg (.seq .reg (.seq .reg (.seq .reg (.seq .reg (.seq .reg (.seq .reg (.seq .reg (.seq (.seq .reg (.cond (.seq .reg .no) .no)) (.seq .reg (.seq (.seq .reg (.blk (.rng [.one (.int .i64), .agg [.int .i64, .bool, .bool, .bool]] [none] (.seq .reg .reg) (.blk .reg)))) (.seq .reg (.seq .reg (.seq .reg (.seq .reg .no)))))))))))))))))))))

theorem alive.eq  (H : Heap) (K : Value → Heap → Prop) : vcFun X Try.f6 alive.ann [] H K = alive.code  H K := by kernel_rfl

theorem alive.call  {H : Heap} {K : Value → Heap → Prop} (h : alive.code  H K) : CallF Try.prog 6 #[] H K :=
  callF_of_eq (X := X) X_P X_wide X_bodied Try.func6 (alive.eq  H K) h

def MarkTwice.y1 (b4 : Nat) (H_13 : Heap) (R : Loop) (vs : List Value) (H_14 : Heap) (K_ : Value → Heap → Prop) : Prop :=
  ∃ y : Int, ∃ y0 : Int, ∃ y1 : Bool, ∃ y2 : Bool, ∃ y3 : Bool, vs = [(.int .i64 y), (.agg #[(.int .i64 y0), (.bool y1), (.bool y2), (.bool y3)])] ∧
  H_14[H_13.size + 1]? = some (.loop R) ∧
  ∀ (b5 : Nat) (H_15 : Heap), b5 = H_14.size → H_15 = H_14.push (.cells #[(.int .i64 0), (.bool false), (.bool false), (.bool false)] 40) →
  canSet H_15 b5 0 [(.int .i64 y0), (.bool y1), (.bool y2), (.bool y3)] ∧
  ∀ H_16 : Heap, H_16 = setAll H_15 b5 0 [(.int .i64 y0), (.bool y1), (.bool y2), (.bool y3)] →
  H_16[H_13.size + 1]? = some (.loop R) ∧
  ∀ H_17 : Heap, H_17 = setLoop H_16 (H_13.size + 1) { R with state := .busy } →
  ∃ v : Option Nat, cellAt H_17 b4 0 = some (.map v) ∧
  ∃ c0_1 : Int, ∃ c1_1 : Bool, ∃ c2_1 : Bool, ∃ c3_1 : Bool, cellsAre H_17 b5 0 [(.int .i64 c0_1), (.bool c1_1), (.bool c2_1), (.bool c3_1)] ∧
  RunW Try.prog (Instr.mapUpdate 45 (.map v) (.int .i64 y) (.agg #[(.int .i64 c0_1), (.bool c1_1), (.bool c2_1), (.bool c3_1)])) H_17 fun u5 H_18 =>
  H_18[H_13.size + 1]? = some (.loop { R with state := .busy }) ∧ K_ (.bool true) (setLoop H_18 (H_13.size + 1) R)

def MarkTwice.y2 (b : Nat) (b4 : Nat) (b6 : Nat) (H_29 : Heap) (R1 : Loop) (vs1 : List Value) (H_30 : Heap) (K_1 : Value → Heap → Prop) : Prop :=
  ∃ y4 : Int, ∃ y0_1 : Int, ∃ y1_1 : Bool, ∃ y2_1 : Bool, ∃ y3_1 : Bool, vs1 = [(.int .i64 y4), (.agg #[(.int .i64 y0_1), (.bool y1_1), (.bool y2_1), (.bool y3_1)])] ∧
  H_30[H_29.size + 1]? = some (.loop R1) ∧
  ∀ (b7 : Nat) (H_31 : Heap), b7 = H_30.size → H_31 = H_30.push (.cells #[(.int .i64 0), (.bool false), (.bool false), (.bool false)] 40) →
  canSet H_31 b7 0 [(.int .i64 y0_1), (.bool y1_1), (.bool y2_1), (.bool y3_1)] ∧
  ∀ H_32 : Heap, H_32 = setAll H_31 b7 0 [(.int .i64 y0_1), (.bool y1_1), (.bool y2_1), (.bool y3_1)] →
  H_32[H_29.size + 1]? = some (.loop R1) ∧
  ∀ H_33 : Heap, H_33 = setLoop H_32 (H_29.size + 1) { R1 with state := .busy } →
  ∃ v1 : Option Nat, cellAt H_33 b4 0 = some (.map v1) ∧
  ∃ m0 : Int, ∃ m1 : Bool, ∃ m2 : Bool, ∃ m3 : Bool, ∃ there : Bool, ReadRun Try.prog (Instr.lookup 45 (.map v1) (.int .i64 y4) true) H_33 (.tuple #[(.agg #[(.int .i64 m0), (.bool m1), (.bool m2), (.bool m3)]), (.bool there)]) ∧
  ∀ (b8 : Nat) (H_34 : Heap), b8 = H_33.size → H_34 = H_33.push (.cells #[(.int .i64 0), (.bool false), (.bool false), (.bool false)] 40) →
  canSet H_34 b8 0 [(.int .i64 m0), (.bool m1), (.bool m2), (.bool m3)] ∧
  ∀ H_35 : Heap, H_35 = setAll H_34 b8 0 [(.int .i64 m0), (.bool m1), (.bool m2), (.bool m3)] →
  ∃ c0_2 : Int, ∃ c1_2 : Bool, ∃ c2_2 : Bool, ∃ c3_2 : Bool, (((!there) = false) → cellsAre H_35 b7 0 [(.int .i64 c0_2), (.bool c1_2), (.bool c2_2), (.bool c3_2)]) ∧
  ∃ c0_3 : Int, ∃ c1_3 : Bool, ∃ c2_3 : Bool, ∃ c3_3 : Bool, (((!there) = false) → cellsAre H_35 b8 0 [(.int .i64 c0_3), (.bool c1_3), (.bool c2_3), (.bool c3_3)]) ∧
  ∃ eq : Bool, (((!there) = false) → EqRun Try.prog .neq 40 (.agg #[(.int .i64 c0_2), (.bool c1_2), (.bool c2_2), (.bool c3_2)]) (.agg #[(.int .i64 c0_3), (.bool c1_3), (.bool c2_3), (.bool c3_3)]) eq) ∧
  ((((!there) || eq)) = true →
  canSet H_35 b 0 [(.bool false)] ∧
  ∀ H_36 : Heap, H_36 = setAll H_35 b 0 [(.bool false)] →
  H_36[H_29.size + 1]? = some (.loop { R1 with state := .busy }) ∧ K_1 (.bool false) (setLoop H_36 (H_29.size + 1) { R1 with state := .done, pending := some .ret })) ∧
  ((((!there) || eq)) = false →
  ∃ v2 : Int, cellAt H_35 b6 0 = some (.int .i64 v2) ∧
  canSet H_35 b6 0 [(.int .i64 (IntKind.i64.wrap (v2 + 1)))] ∧
  ∀ H_37 : Heap, H_37 = setAll H_35 b6 0 [(.int .i64 (IntKind.i64.wrap (v2 + 1)))] →
  H_37[H_29.size + 1]? = some (.loop { R1 with state := .busy }) ∧ K_1 (.bool true) (setLoop H_37 (H_29.size + 1) R1))

def MarkTwice.l3 (callsa : Option Addr) (callsn : Nat) (now : Int) (K : Value → Heap → Prop) (b : Nat) (r1 : Option Addr) (Inv : Int → Heap → Prop) (mu : Int → Heap → Nat) (i : Int) (H_6 : Heap) : Prop :=
  (((decide (i < (callsn : Int)))) = true →
  ∀ (b1 : Nat) (H_7 : Heap), b1 = H_6.size → H_7 = H_6.push (.cells #[(.int .i64 0), (.int .i64 0), (.int .i64 0), (.bool false), (.int .i64 0), (.bool false), (.bool false), (.bool false), (.bool false), (.int .i64 0), (.bool false), (.bool false), (.bool false), (.bool false), (.int .i64 0), (.bool false), (.bool false), (.bool false), (.bool false), (.int .i64 0), (.bool false), (.bool false), (.bool false), (.bool false), (.int .i64 0), (.bool false), (.bool false), (.bool false), (.bool false), (.int .i64 0), (.bool false), (.bool false), (.bool false), (.bool false), (.int .i64 0), (.bool false), (.bool false), (.bool false), (.bool false), (.int .i64 0), (.bool false), (.bool false), (.bool false), (.bool false), (.int .i64 0), (.bool false), (.bool false), (.bool false), (.bool false), (.int .i64 0), (.bool false), (.bool false), (.bool false), (.bool false), (.int .i64 0), (.bool false), (.bool false), (.bool false), (.bool false), (.int .i64 0), (.bool false), (.bool false), (.bool false), (.bool false), (.int .i64 0), (.bool false), (.bool false), (.bool false), (.bool false), (.int .i64 0), (.bool false), (.bool false), (.bool false), (.bool false), (.int .i64 0), (.bool false), (.bool false), (.bool false), (.bool false), (.int .i64 0), (.bool false), (.bool false), (.bool false), (.bool false), (.int .i64 0), (.bool false), (.bool false), (.bool false), (.bool false), (.int .i64 0), (.bool false), (.bool false), (.bool false), (.bool false), (.int .i64 0), (.bool false), (.bool false), (.bool false), (.bool false), (.int .i64 0), (.bool false), (.bool false), (.bool false), (.bool false), (.int .i64 0), (.bool false), (.bool false), (.bool false), (.bool false), (.int .i64 0), (.bool false), (.bool false), (.bool false), (.bool false), (.int .i64 0), (.bool false), (.bool false), (.bool false), (.bool false), (.int .i64 0), (.bool false), (.bool false), (.bool false), (.bool false), (.int .i64 0), (.bool false), (.bool false), (.bool false), (.bool false), (.int .i64 0), (.bool false), (.bool false), (.bool false), (.bool false), (.int .i64 0), (.bool false), (.bool false), (.bool false), (.bool false), (.int .i64 0), (.bool false), (.bool false), (.bool false), (.bool false), (.int .i64 0), (.bool false), (.bool false), (.bool false), (.bool false), (.int .i64 0), (.bool false), (.bool false), (.bool false), (.bool false), (.int .i64 0), (.bool false), (.bool false), (.bool false), (.bool false), (.int .i64 0), (.bool false), (.bool false), (.bool false), (.bool false), (.int .i64 0), (.bool false), (.bool false), (.bool false), (.bool false), (.int .i64 0), (.bool false), (.bool false), (.bool false), (.bool false), (.int .i64 0), (.bool false), (.bool false), (.bool false), (.bool false), (.int .i64 0), (.bool false), (.bool false), (.bool false), (.bool false), (.int .i64 0), (.bool false), (.bool false), (.bool false), (.bool false), (.int .i64 0), (.bool false), (.bool false), (.bool false), (.bool false), (.int .i64 0), (.bool false), (.bool false), (.bool false), (.bool false), (.int .i64 0), (.bool false), (.bool false), (.bool false), (.bool false), (.int .i64 0), (.bool false), (.bool false), (.bool false), (.bool false), (.int .i64 0), (.bool false), (.bool false), (.bool false), (.bool false), (.int .i64 0), (.bool false), (.bool false), (.bool false), (.bool false), (.int .i64 0), (.bool false), (.bool false), (.bool false), (.bool false), (.int .i64 0), (.bool false), (.bool false), (.bool false), (.bool false), (.int .i64 0), (.bool false), (.bool false), (.bool false), (.bool false), (.int .i64 0), (.bool false), (.bool false), (.bool false), (.bool false), (.int .i64 0), (.bool false), (.bool false), (.bool false), (.bool false), (.int .i64 0), (.bool false), (.bool false), (.bool false), (.bool false), (.int .i64 0), (.bool false), (.bool false), (.bool false), (.bool false), (.int .i64 0), (.bool false), (.bool false), (.bool false), (.bool false), (.int .i64 0), (.bool false), (.bool false), (.bool false), (.bool false), (.int .i64 0), (.bool false), (.bool false), (.bool false), (.bool false), (.int .i64 0), (.bool false), (.bool false), (.bool false), (.bool false), (.int .i64 0), (.bool false), (.bool false), (.bool false), (.bool false), (.int .i64 0), (.bool false), (.bool false), (.bool false), (.bool false), (.int .i64 0), (.bool false), (.bool false), (.bool false), (.bool false), (.int .i64 0), (.bool false), (.bool false), (.bool false), (.bool false), (.int .i64 0), (.bool false), (.bool false), (.bool false), (.bool false), (.int .i64 0), (.bool false), (.bool false), (.bool false), (.bool false), (.int .i64 0), (.bool false), (.bool false), (.bool false), (.bool false), (.int .i64 0), (.bool false), (.bool false), (.bool false), (.bool false), (.int .i64 0), (.bool false), (.bool false), (.bool false), (.bool false), (.int .i64 0), (.bool false), (.bool false), (.bool false)] 37) →
  ((0 : Int) ≤ i ∧ i < (callsn : Int)) ∧ ∃ b2 o : Nat, (callsa = some ⟨b2, o, none⟩) ∧
  ∃ c0 : Int, ∃ c1 : Int, ∃ c2 : Int, ∃ c3 : Bool, cellsAre H_7 b2 (o + i.toNat * 4) [(.int .i64 c0), (.int .i64 c1), (.int .i64 c2), (.bool c3)] ∧
  CallF Try.prog 10 #[(.pointer r1), (.pointer (some ⟨b1, 0, none⟩)), (.agg #[(.int .i64 c0), (.int .i64 c1), (.int .i64 c2), (.bool c3)])] H_7 fun u2 H_8 => ∃ r3 : Bool, u2 = (.bool r3) ∧
  Inv (IntKind.i64.wrap (i + 1)) H_8 ∧ mu (IntKind.i64.wrap (i + 1)) H_8 < mu i H_6) ∧
  (((decide (i < (callsn : Int)))) = false →
  CallF Try.prog 12 #[(.pointer r1), (.int .i64 now)] H_6 fun u3 H_9 => ∃ r4 : Int, u3 = (.int .i64 r4) ∧
  ∃ r5 : Int, CallQ Try.prog 8 #[(.pointer r1)] H_9 (.int .i64 r5) ∧
  ∃ r6 : Int, CallQ Try.prog 9 #[(.pointer r1)] H_9 (.int .i64 r6) ∧
  ∀ (b3 : Nat) (H_10 : Heap), b3 = H_9.size → H_10 = H_9.push (.map #[] 0) →
  ∀ (b4 : Nat) (H_11 : Heap), b4 = H_10.size → H_11 = H_10.push (.cells #[(.map none)] 45) →
  canSet H_11 b4 0 [(.map (some b3))] ∧
  ∀ H_12 : Heap, H_12 = setAll H_11 b4 0 [(.map (some b3))] →
  CallF Try.prog 13 #[(.pointer r1)] H_12 fun u4 H_13 => ∃ rf : FuncId, ∃ rl : List Value, u4 = (.func (.func rf) #[] ⟨rl⟩) ∧
  memN rf X.calls = true ∧
  ∀ R : Loop, R.state = .ready → R.pending = none →
  (∀ (vs : List Value) (H_14 : Heap) (K_ : Value → Heap → Prop), MarkTwice.y1 b4 H_13 R vs H_14 K_ → YieldF Try.prog (H_13.size + 1) vs H_14 K_) →
  CallF Try.prog rf ⟨(.func (.yield (H_13.size + 1)) #[] #[]) :: rl⟩ ((H_13.push (.deferred (some []))).push (.loop R)) fun u6 H_19 => ∃ (st : LoopState) (pd : Option Code), st ≠ .busy ∧ H_19[H_13.size + 1]? = some (.loop { R with state := st, pending := pd }) ∧
  ∀ H_20 : Heap, H_20 = setLoop H_19 (H_13.size + 1) { R with state := .exhausted, pending := pd } →
  pd = none ∧
  CallF Try.prog 14 #[(.pointer r1)] H_20 fun u7 H_21 => ∃ r7 : Option Addr, u7 = (.pointer r7) ∧
  ((r7.isNone) = true →
  canSet H_21 b 0 [(.bool false)] ∧
  ∀ H_22 : Heap, H_22 = setAll H_21 b 0 [(.bool false)] →
  H_22[H_13.size]? = some (.deferred (some [])) ∧
  ∃ res3 : Bool, cellAt (H_22.setIfInBounds H_13.size (.deferred none)) b 0 = some (.bool res3) ∧
  K (.bool res3) (H_22.setIfInBounds H_13.size (.deferred none))) ∧
  ((r7.isNone) = false →
  CallF Try.prog 12 #[(.pointer r7), (.int .i64 4611686018427387903)] H_21 fun u8 H_23 => ∃ r8 : Int, u8 = (.int .i64 r8) ∧
  CallF Try.prog 15 #[(.pointer r7), (.int .i64 9), (.int .i64 5)] H_23 fun u9 H_24 => ∃ r9 : Int, u9 = (.int .i64 r9) ∧
  CallF Try.prog 12 #[(.pointer r1), (.int .i64 now)] H_24 fun u10 H_25 => ∃ r10 : Int, u10 = (.int .i64 r10) ∧
  ∃ r11 : Int, (((!decide (r4 = r10)) = false) → CallQ Try.prog 8 #[(.pointer r1)] H_25 (.int .i64 r11)) ∧
  ∃ r12 : Int, ((((!decide (r4 = r10)) || (!decide (r11 = r5))) = false) → CallQ Try.prog 9 #[(.pointer r1)] H_25 (.int .i64 r12)) ∧
  (((((!decide (r4 = r10)) || (!decide (r11 = r5))) || (!decide (r12 = r6)))) = true →
  canSet H_25 b 0 [(.bool false)] ∧
  ∀ H_26 : Heap, H_26 = setAll H_25 b 0 [(.bool false)] →
  H_26[H_13.size]? = some (.deferred (some [])) ∧
  ∃ res4 : Bool, cellAt (H_26.setIfInBounds H_13.size (.deferred none)) b 0 = some (.bool res4) ∧
  K (.bool res4) (H_26.setIfInBounds H_13.size (.deferred none))) ∧
  (((((!decide (r4 = r10)) || (!decide (r11 = r5))) || (!decide (r12 = r6)))) = false →
  ∀ (b6 : Nat) (H_27 : Heap), b6 = H_25.size → H_27 = H_25.push (.cells #[(.int .i64 0)] 3) →
  canSet H_27 b6 0 [(.int .i64 0)] ∧
  ∀ H_28 : Heap, H_28 = setAll H_27 b6 0 [(.int .i64 0)] →
  CallF Try.prog 13 #[(.pointer r1)] H_28 fun u11 H_29 => ∃ rf1 : FuncId, ∃ rl1 : List Value, u11 = (.func (.func rf1) #[] ⟨rl1⟩) ∧
  memN rf1 X.calls = true ∧
  ∀ R1 : Loop, R1.state = .ready → R1.pending = none →
  (∀ (vs1 : List Value) (H_30 : Heap) (K_1 : Value → Heap → Prop), MarkTwice.y2 b b4 b6 H_29 R1 vs1 H_30 K_1 → YieldF Try.prog (H_29.size + 1) vs1 H_30 K_1) →
  CallF Try.prog rf1 ⟨(.func (.yield (H_29.size + 1)) #[] #[]) :: rl1⟩ ((H_29.push (.deferred (some []))).push (.loop R1)) fun u12 H_38 => ∃ (st1 : LoopState) (pd1 : Option Code), st1 ≠ .busy ∧ H_38[H_29.size + 1]? = some (.loop { R1 with state := st1, pending := pd1 }) ∧
  ∀ H_39 : Heap, H_39 = setLoop H_38 (H_29.size + 1) { R1 with state := .exhausted, pending := pd1 } →
  ((pd1 = none ∧
  ∃ v3 : Int, cellAt H_39 b6 0 = some (.int .i64 v3) ∧
  ∃ v4 : Option Nat, cellAt H_39 b4 0 = some (.map v4) ∧
  ∃ n : Int, ReadRun Try.prog (Builtin.len_ #[45] 3 #[(.map v4)]) H_39 (.int .i64 n) ∧
  canSet H_39 b 0 [(.bool (decide (v3 = n)))] ∧
  ∀ H_40 : Heap, H_40 = setAll H_39 b 0 [(.bool (decide (v3 = n)))] →
  H_40[H_29.size]? = some (.deferred (some [])) ∧
  (H_40.setIfInBounds H_29.size (.deferred none))[H_13.size]? = some (.deferred (some [])) ∧
  ∃ res5 : Bool, cellAt ((H_40.setIfInBounds H_29.size (.deferred none)).setIfInBounds H_13.size (.deferred none)) b 0 = some (.bool res5) ∧
  K (.bool res5) ((H_40.setIfInBounds H_29.size (.deferred none)).setIfInBounds H_13.size (.deferred none))) ∨
  pd1 = (some .ret) ∧
  H_39[H_29.size]? = some (.deferred (some [])) ∧
  (H_39.setIfInBounds H_29.size (.deferred none))[H_13.size]? = some (.deferred (some [])) ∧
  ∃ res6 : Bool, cellAt ((H_39.setIfInBounds H_29.size (.deferred none)).setIfInBounds H_13.size (.deferred none)) b 0 = some (.bool res6) ∧
  K (.bool res6) ((H_39.setIfInBounds H_29.size (.deferred none)).setIfInBounds H_13.size (.deferred none))))))

def MarkTwice.code (lag : Int) (callsa : Option Addr) (callsn : Nat) (callsc : Nat) (now : Int) (H : Heap) (K : Value → Heap → Prop) : Prop :=
  ∀ (b : Nat) (H_ : Heap), b = H.size → H_ = H.push (.cells #[(.bool false)] 4) →
  CallF Try.prog 6 #[] H_ fun u H_1 => ∃ r : Bool, u = (.bool r) ∧
  (((!r)) = true →
  canSet H_1 b 0 [(.bool false)] ∧
  ∀ H_2 : Heap, H_2 = setAll H_1 b 0 [(.bool false)] →
  ∃ res : Bool, cellAt H_2 b 0 = some (.bool res) ∧
  K (.bool res) H_2) ∧
  (((!r)) = false →
  (((decide (100 < (callsn : Int)))) = true →
  canSet H_1 b 0 [(.bool true)] ∧
  ∀ H_3 : Heap, H_3 = setAll H_1 b 0 [(.bool true)] →
  ∃ res1 : Bool, cellAt H_3 b 0 = some (.bool res1) ∧
  K (.bool res1) H_3) ∧
  (((decide (100 < (callsn : Int)))) = false →
  CallF Try.prog 7 #[(.int .i64 lag)] H_1 fun u1 H_4 => ∃ r1 : Option Addr, ∃ r2 : Int, u1 = (.tuple #[(.pointer r1), (.int .i64 r2)]) ∧
  ((((!decide (r2 = 0)) || r1.isNone)) = true →
  canSet H_4 b 0 [(.bool r1.isNone)] ∧
  ∀ H_5 : Heap, H_5 = setAll H_4 b 0 [(.bool r1.isNone)] →
  ∃ res2 : Bool, cellAt H_5 b 0 = some (.bool res2) ∧
  K (.bool res2) H_5) ∧
  ((((!decide (r2 = 0)) || r1.isNone)) = false →
  ∃ (Inv : Int → Heap → Prop) (mu : Int → Heap → Nat), Inv 0 H_4 ∧
  ∀ (i : Int), ∀ H_6 : Heap, Inv i H_6 → MarkTwice.l3 callsa callsn now K b r1 Inv mu i H_6)))

def MarkTwice.ann : Ann := (.seq .reg (.seq (.seq .reg (.cond (.seq .reg .no) .no)) (.seq (.seq .reg (.cond (.seq .reg .no) .no)) (.seq .reg (.seq (.seq .reg (.cond (.seq .reg .no) .no)) (.seq (.seq .reg (.blk (.loop [(9, .one (.int .i64))] (.seq (.seq .reg (.cond .no .no)) (.seq (.blk .reg) .reg))))) (.seq .reg (.seq .reg (.seq .reg (.seq .reg (.seq (.seq .reg (.blk (.rng [.one (.int .i64), .agg [.int .i64, .bool, .bool, .bool]] [none] (.seq .reg .reg) (.blk .reg)))) (.seq .reg (.seq (.seq .reg (.cond (.seq .reg .no) .no)) (.seq .reg (.seq .reg (.seq .reg (.seq (.seq .reg (.cond (.seq .reg .no) .no)) (.seq .reg (.seq (.seq .reg (.blk (.rng [.one (.int .i64), .agg [.int .i64, .bool, .bool, .bool]] [none, (some .ret)] (.seq .reg .reg) (.blk (.seq .reg (.seq (.seq .reg (.cond (.seq .reg .no) .no)) .reg)))))) (.seq .reg .no))))))))))))))))))))

theorem MarkTwice.eq (lag : Int) (callsa : Option Addr) (callsn : Nat) (callsc : Nat) (now : Int) (H : Heap) (K : Value → Heap → Prop) : vcFun X Try.f5 MarkTwice.ann [(.int .i64 lag), (.slice callsa callsn callsc), (.int .i64 now)] H K = MarkTwice.code lag callsa callsn callsc now H K := by kernel_rfl

theorem MarkTwice.call {lag : Int} {callsa : Option Addr} {callsn : Nat} {callsc : Nat} {now : Int} {H : Heap} {K : Value → Heap → Prop} (h : MarkTwice.code lag callsa callsn callsc now H K) : CallF Try.prog 5 #[(.int .i64 lag), (.slice callsa callsn callsc), (.int .i64 now)] H K :=
  callF_of_eq (X := X) X_P X_wide X_bodied Try.func5 (MarkTwice.eq lag callsa callsn callsc now H K) h

def MarkKeeps.r1 (K : Value → Heap → Prop) (r1 : Option Addr) (Inv : Bool → Int → Heap → Prop) (mu : Bool → Int → Heap → Nat) (good : Bool) (i : Int) (H_2 : Heap) (r6 : Bool) (b4 : Nat) (good1 : Bool) (H_13 : Heap) : Prop :=
  ∃ v : Bool, (((good1 && r6) = true) → cellAt H_13 b4 2 = some (.bool v)) ∧
  ∃ v1 : Bool, ((((good1 && r6) && (!v)) = true) → cellAt H_13 b4 3 = some (.bool v1)) ∧
  ∃ r7 : Int, (((((good1 && r6) && (!v)) && (!v1)) = true) → CallQ Try.prog 8 #[(.pointer r1)] H_13 (.int .i64 r7)) ∧
  ∃ v2 : Int, (((((good1 && r6) && (!v)) && (!v1)) = true) → cellAt H_13 b4 0 = some (.int .i64 v2)) ∧
  ((((((good1 && r6) && (!v)) && (!v1)) && (decide (v2 < r7)))) = true →
  K (.bool false) H_13) ∧
  ((((((good1 && r6) && (!v)) && (!v1)) && (decide (v2 < r7)))) = false →
  Inv (((good1 && r6) && (!v)) && (!v1)) (IntKind.i64.wrap (i + 1)) H_13 ∧ mu (((good1 && r6) && (!v)) && (!v1)) (IntKind.i64.wrap (i + 1)) H_13 < mu good i H_2)

def MarkKeeps.l2 (callsa : Option Addr) (callsn : Nat) (agent : Int) (K : Value → Heap → Prop) (r1 : Option Addr) (Inv : Bool → Int → Heap → Prop) (mu : Bool → Int → Heap → Nat) (good : Bool) (i : Int) (H_2 : Heap) : Prop :=
  (((decide (i < (callsn : Int)))) = true →
  ((0 : Int) ≤ i ∧ i < (callsn : Int)) ∧ ∃ b o : Nat, (callsa = some ⟨b, o, none⟩) ∧
  ∃ c0 : Int, ∃ c1 : Int, ∃ c2 : Int, ∃ c3 : Bool, cellsAre H_2 b (o + i.toNat * 4) [(.int .i64 c0), (.int .i64 c1), (.int .i64 c2), (.bool c3)] ∧
  ∀ (b1 : Nat) (H_3 : Heap), b1 = H_2.size → H_3 = H_2.push (.cells #[(.int .i64 0), (.int .i64 0), (.int .i64 0), (.bool false)] 29) →
  canSet H_3 b1 0 [(.int .i64 c0), (.int .i64 c1), (.int .i64 c2), (.bool c3)] ∧
  ∀ H_4 : Heap, H_4 = setAll H_3 b1 0 [(.int .i64 c0), (.int .i64 c1), (.int .i64 c2), (.bool c3)] →
  ∃ r3 : Int, CallQ Try.prog 8 #[(.pointer r1)] H_4 (.int .i64 r3) ∧
  CallF Try.prog 11 #[(.pointer r1), (.int .i64 agent)] H_4 fun u2 H_5 => ∃ r0 : Int, ∃ r1_1 : Bool, ∃ r2_1 : Bool, ∃ r3_1 : Bool, ∃ r4 : Bool, u2 = (.tuple #[(.agg #[(.int .i64 r0), (.bool r1_1), (.bool r2_1), (.bool r3_1)]), (.bool r4)]) ∧
  ∀ (b2 : Nat) (H_6 : Heap), b2 = H_5.size → H_6 = H_5.push (.cells #[(.int .i64 0), (.bool false), (.bool false), (.bool false)] 40) →
  canSet H_6 b2 0 [(.int .i64 r0), (.bool r1_1), (.bool r2_1), (.bool r3_1)] ∧
  ∀ H_7 : Heap, H_7 = setAll H_6 b2 0 [(.int .i64 r0), (.bool r1_1), (.bool r2_1), (.bool r3_1)] →
  ∀ (b3 : Nat) (H_8 : Heap), b3 = H_7.size → H_8 = H_7.push (.cells #[(.int .i64 0), (.int .i64 0), (.int .i64 0), (.bool false), (.int .i64 0), (.bool false), (.bool false), (.bool false), (.bool false), (.int .i64 0), (.bool false), (.bool false), (.bool false), (.bool false), (.int .i64 0), (.bool false), (.bool false), (.bool false), (.bool false), (.int .i64 0), (.bool false), (.bool false), (.bool false), (.bool false), (.int .i64 0), (.bool false), (.bool false), (.bool false), (.bool false), (.int .i64 0), (.bool false), (.bool false), (.bool false), (.bool false), (.int .i64 0), (.bool false), (.bool false), (.bool false), (.bool false), (.int .i64 0), (.bool false), (.bool false), (.bool false), (.bool false), (.int .i64 0), (.bool false), (.bool false), (.bool false), (.bool false), (.int .i64 0), (.bool false), (.bool false), (.bool false), (.bool false), (.int .i64 0), (.bool false), (.bool false), (.bool false), (.bool false), (.int .i64 0), (.bool false), (.bool false), (.bool false), (.bool false), (.int .i64 0), (.bool false), (.bool false), (.bool false), (.bool false), (.int .i64 0), (.bool false), (.bool false), (.bool false), (.bool false), (.int .i64 0), (.bool false), (.bool false), (.bool false), (.bool false), (.int .i64 0), (.bool false), (.bool false), (.bool false), (.bool false), (.int .i64 0), (.bool false), (.bool false), (.bool false), (.bool false), (.int .i64 0), (.bool false), (.bool false), (.bool false), (.bool false), (.int .i64 0), (.bool false), (.bool false), (.bool false), (.bool false), (.int .i64 0), (.bool false), (.bool false), (.bool false), (.bool false), (.int .i64 0), (.bool false), (.bool false), (.bool false), (.bool false), (.int .i64 0), (.bool false), (.bool false), (.bool false), (.bool false), (.int .i64 0), (.bool false), (.bool false), (.bool false), (.bool false), (.int .i64 0), (.bool false), (.bool false), (.bool false), (.bool false), (.int .i64 0), (.bool false), (.bool false), (.bool false), (.bool false), (.int .i64 0), (.bool false), (.bool false), (.bool false), (.bool false), (.int .i64 0), (.bool false), (.bool false), (.bool false), (.bool false), (.int .i64 0), (.bool false), (.bool false), (.bool false), (.bool false), (.int .i64 0), (.bool false), (.bool false), (.bool false), (.bool false), (.int .i64 0), (.bool false), (.bool false), (.bool false), (.bool false), (.int .i64 0), (.bool false), (.bool false), (.bool false), (.bool false), (.int .i64 0), (.bool false), (.bool false), (.bool false), (.bool false), (.int .i64 0), (.bool false), (.bool false), (.bool false), (.bool false), (.int .i64 0), (.bool false), (.bool false), (.bool false), (.bool false), (.int .i64 0), (.bool false), (.bool false), (.bool false), (.bool false), (.int .i64 0), (.bool false), (.bool false), (.bool false), (.bool false), (.int .i64 0), (.bool false), (.bool false), (.bool false), (.bool false), (.int .i64 0), (.bool false), (.bool false), (.bool false), (.bool false), (.int .i64 0), (.bool false), (.bool false), (.bool false), (.bool false), (.int .i64 0), (.bool false), (.bool false), (.bool false), (.bool false), (.int .i64 0), (.bool false), (.bool false), (.bool false), (.bool false), (.int .i64 0), (.bool false), (.bool false), (.bool false), (.bool false), (.int .i64 0), (.bool false), (.bool false), (.bool false), (.bool false), (.int .i64 0), (.bool false), (.bool false), (.bool false), (.bool false), (.int .i64 0), (.bool false), (.bool false), (.bool false), (.bool false), (.int .i64 0), (.bool false), (.bool false), (.bool false), (.bool false), (.int .i64 0), (.bool false), (.bool false), (.bool false), (.bool false), (.int .i64 0), (.bool false), (.bool false), (.bool false), (.bool false), (.int .i64 0), (.bool false), (.bool false), (.bool false), (.bool false), (.int .i64 0), (.bool false), (.bool false), (.bool false), (.bool false), (.int .i64 0), (.bool false), (.bool false), (.bool false), (.bool false), (.int .i64 0), (.bool false), (.bool false), (.bool false), (.bool false), (.int .i64 0), (.bool false), (.bool false), (.bool false), (.bool false), (.int .i64 0), (.bool false), (.bool false), (.bool false), (.bool false), (.int .i64 0), (.bool false), (.bool false), (.bool false), (.bool false), (.int .i64 0), (.bool false), (.bool false), (.bool false), (.bool false), (.int .i64 0), (.bool false), (.bool false), (.bool false), (.bool false), (.int .i64 0), (.bool false), (.bool false), (.bool false), (.bool false), (.int .i64 0), (.bool false), (.bool false), (.bool false), (.bool false), (.int .i64 0), (.bool false), (.bool false), (.bool false), (.bool false), (.int .i64 0), (.bool false), (.bool false), (.bool false), (.bool false), (.int .i64 0), (.bool false), (.bool false), (.bool false), (.bool false), (.int .i64 0), (.bool false), (.bool false), (.bool false), (.bool false), (.int .i64 0), (.bool false), (.bool false), (.bool false)] 37) →
  ∃ c0_1 : Int, ∃ c1_1 : Int, ∃ c2_1 : Int, ∃ c3_1 : Bool, cellsAre H_8 b1 0 [(.int .i64 c0_1), (.int .i64 c1_1), (.int .i64 c2_1), (.bool c3_1)] ∧
  CallF Try.prog 10 #[(.pointer r1), (.pointer (some ⟨b3, 0, none⟩)), (.agg #[(.int .i64 c0_1), (.int .i64 c1_1), (.int .i64 c2_1), (.bool c3_1)])] H_8 fun u3 H_9 => ∃ r5 : Bool, u3 = (.bool r5) ∧
  CallF Try.prog 11 #[(.pointer r1), (.int .i64 agent)] H_9 fun u4 H_10 => ∃ r0_1 : Int, ∃ r1_2 : Bool, ∃ r2_2 : Bool, ∃ r3_2 : Bool, ∃ r6 : Bool, u4 = (.tuple #[(.agg #[(.int .i64 r0_1), (.bool r1_2), (.bool r2_2), (.bool r3_2)]), (.bool r6)]) ∧
  ∀ (b4 : Nat) (H_11 : Heap), b4 = H_10.size → H_11 = H_10.push (.cells #[(.int .i64 0), (.bool false), (.bool false), (.bool false)] 40) →
  canSet H_11 b4 0 [(.int .i64 r0_1), (.bool r1_2), (.bool r2_2), (.bool r3_2)] ∧
  ∀ H_12 : Heap, H_12 = setAll H_11 b4 0 [(.int .i64 r0_1), (.bool r1_2), (.bool r2_2), (.bool r3_2)] →
  ∀ Jn : Bool → Heap → Prop, (∀ (good1 : Bool), ∀ H_13 : Heap, MarkKeeps.r1 K r1 Inv mu good i H_2 r6 b4 good1 H_13 → Jn good1 H_13) →
  (((r6 && (!r4))) = true →
  ∃ v3 : Int, cellAt H_12 b4 0 = some (.int .i64 v3) ∧
  Jn (decide (r3 ≤ v3)) H_12) ∧
  (((r6 && (!r4))) = false →
  Jn good H_12)) ∧
  (((decide (i < (callsn : Int)))) = false →
  K (.bool true) H_2)

def MarkKeeps.code (lag : Int) (callsa : Option Addr) (callsn : Nat) (callsc : Nat) (agent : Int) (H : Heap) (K : Value → Heap → Prop) : Prop :=
  CallF Try.prog 6 #[] H fun u H_ => ∃ r : Bool, u = (.bool r) ∧
  (((!r)) = true →
  K (.bool false) H_) ∧
  (((!r)) = false →
  (((decide (100 < (callsn : Int)))) = true →
  K (.bool true) H_) ∧
  (((decide (100 < (callsn : Int)))) = false →
  CallF Try.prog 7 #[(.int .i64 lag)] H_ fun u1 H_1 => ∃ r1 : Option Addr, ∃ r2 : Int, u1 = (.tuple #[(.pointer r1), (.int .i64 r2)]) ∧
  ((((!decide (r2 = 0)) || r1.isNone)) = true →
  K (.bool r1.isNone) H_1) ∧
  ((((!decide (r2 = 0)) || r1.isNone)) = false →
  ∃ (Inv : Bool → Int → Heap → Prop) (mu : Bool → Int → Heap → Nat), Inv false 0 H_1 ∧
  ∀ (good : Bool) (i : Int), ∀ H_2 : Heap, Inv good i H_2 → MarkKeeps.l2 callsa callsn agent K r1 Inv mu good i H_2)))

def MarkKeeps.ann : Ann := (.seq .reg (.seq (.seq .reg (.cond (.seq .reg .no) .no)) (.seq (.seq .reg (.cond (.seq .reg .no) .no)) (.seq .reg (.seq (.seq .reg (.cond (.seq .reg .no) .no)) (.seq .reg (.seq (.seq .reg (.blk (.loop [(9, .one (.bool)), (10, .one (.int .i64))] (.seq (.seq .reg (.cond .no .no)) (.seq (.blk (.seq .reg (.seq .reg (.seq .reg (.seq .reg (.seq .reg (.seq (.seq .reg (.condJ [(9, .one (.bool))] .reg .no)) (.seq .reg (.seq .reg (.cond (.seq .reg .no) .no)))))))))) .reg))))) (.seq .reg .no))))))))

theorem MarkKeeps.eq (lag : Int) (callsa : Option Addr) (callsn : Nat) (callsc : Nat) (agent : Int) (H : Heap) (K : Value → Heap → Prop) : vcFun X Try.f4 MarkKeeps.ann [(.int .i64 lag), (.slice callsa callsn callsc), (.int .i64 agent)] H K = MarkKeeps.code lag callsa callsn callsc agent H K := by kernel_rfl

theorem MarkKeeps.call {lag : Int} {callsa : Option Addr} {callsn : Nat} {callsc : Nat} {agent : Int} {H : Heap} {K : Value → Heap → Prop} (h : MarkKeeps.code lag callsa callsn callsc agent H K) : CallF Try.prog 4 #[(.int .i64 lag), (.slice callsa callsn callsc), (.int .i64 agent)] H K :=
  callF_of_eq (X := X) X_P X_wide X_bodied Try.func4 (MarkKeeps.eq lag callsa callsn callsc agent H K) h

def MarkRises.l1 (lag : Int) (callsa : Option Addr) (callsn : Nat) (K : Value → Heap → Prop) (r1 : Option Addr) (Inv : Bool → Int → Heap → Prop) (mu : Bool → Int → Heap → Nat) (ahead : Bool) (i : Int) (H_2 : Heap) : Prop :=
  (((decide (i < (callsn : Int)))) = true →
  ((0 : Int) ≤ i ∧ i < (callsn : Int)) ∧ ∃ b o : Nat, (callsa = some ⟨b, o, none⟩) ∧
  ∃ c0 : Int, ∃ c1 : Int, ∃ c2 : Int, ∃ c3 : Bool, cellsAre H_2 b (o + i.toNat * 4) [(.int .i64 c0), (.int .i64 c1), (.int .i64 c2), (.bool c3)] ∧
  ∀ (b1 : Nat) (H_3 : Heap), b1 = H_2.size → H_3 = H_2.push (.cells #[(.int .i64 0), (.int .i64 0), (.int .i64 0), (.bool false)] 29) →
  canSet H_3 b1 0 [(.int .i64 c0), (.int .i64 c1), (.int .i64 c2), (.bool c3)] ∧
  ∀ H_4 : Heap, H_4 = setAll H_3 b1 0 [(.int .i64 c0), (.int .i64 c1), (.int .i64 c2), (.bool c3)] →
  ∃ r3 : Int, CallQ Try.prog 8 #[(.pointer r1)] H_4 (.int .i64 r3) ∧
  ∃ r4 : Int, CallQ Try.prog 9 #[(.pointer r1)] H_4 (.int .i64 r4) ∧
  ∀ (b2 : Nat) (H_5 : Heap), b2 = H_4.size → H_5 = H_4.push (.cells #[(.int .i64 0), (.int .i64 0), (.int .i64 0), (.bool false), (.int .i64 0), (.bool false), (.bool false), (.bool false), (.bool false), (.int .i64 0), (.bool false), (.bool false), (.bool false), (.bool false), (.int .i64 0), (.bool false), (.bool false), (.bool false), (.bool false), (.int .i64 0), (.bool false), (.bool false), (.bool false), (.bool false), (.int .i64 0), (.bool false), (.bool false), (.bool false), (.bool false), (.int .i64 0), (.bool false), (.bool false), (.bool false), (.bool false), (.int .i64 0), (.bool false), (.bool false), (.bool false), (.bool false), (.int .i64 0), (.bool false), (.bool false), (.bool false), (.bool false), (.int .i64 0), (.bool false), (.bool false), (.bool false), (.bool false), (.int .i64 0), (.bool false), (.bool false), (.bool false), (.bool false), (.int .i64 0), (.bool false), (.bool false), (.bool false), (.bool false), (.int .i64 0), (.bool false), (.bool false), (.bool false), (.bool false), (.int .i64 0), (.bool false), (.bool false), (.bool false), (.bool false), (.int .i64 0), (.bool false), (.bool false), (.bool false), (.bool false), (.int .i64 0), (.bool false), (.bool false), (.bool false), (.bool false), (.int .i64 0), (.bool false), (.bool false), (.bool false), (.bool false), (.int .i64 0), (.bool false), (.bool false), (.bool false), (.bool false), (.int .i64 0), (.bool false), (.bool false), (.bool false), (.bool false), (.int .i64 0), (.bool false), (.bool false), (.bool false), (.bool false), (.int .i64 0), (.bool false), (.bool false), (.bool false), (.bool false), (.int .i64 0), (.bool false), (.bool false), (.bool false), (.bool false), (.int .i64 0), (.bool false), (.bool false), (.bool false), (.bool false), (.int .i64 0), (.bool false), (.bool false), (.bool false), (.bool false), (.int .i64 0), (.bool false), (.bool false), (.bool false), (.bool false), (.int .i64 0), (.bool false), (.bool false), (.bool false), (.bool false), (.int .i64 0), (.bool false), (.bool false), (.bool false), (.bool false), (.int .i64 0), (.bool false), (.bool false), (.bool false), (.bool false), (.int .i64 0), (.bool false), (.bool false), (.bool false), (.bool false), (.int .i64 0), (.bool false), (.bool false), (.bool false), (.bool false), (.int .i64 0), (.bool false), (.bool false), (.bool false), (.bool false), (.int .i64 0), (.bool false), (.bool false), (.bool false), (.bool false), (.int .i64 0), (.bool false), (.bool false), (.bool false), (.bool false), (.int .i64 0), (.bool false), (.bool false), (.bool false), (.bool false), (.int .i64 0), (.bool false), (.bool false), (.bool false), (.bool false), (.int .i64 0), (.bool false), (.bool false), (.bool false), (.bool false), (.int .i64 0), (.bool false), (.bool false), (.bool false), (.bool false), (.int .i64 0), (.bool false), (.bool false), (.bool false), (.bool false), (.int .i64 0), (.bool false), (.bool false), (.bool false), (.bool false), (.int .i64 0), (.bool false), (.bool false), (.bool false), (.bool false), (.int .i64 0), (.bool false), (.bool false), (.bool false), (.bool false), (.int .i64 0), (.bool false), (.bool false), (.bool false), (.bool false), (.int .i64 0), (.bool false), (.bool false), (.bool false), (.bool false), (.int .i64 0), (.bool false), (.bool false), (.bool false), (.bool false), (.int .i64 0), (.bool false), (.bool false), (.bool false), (.bool false), (.int .i64 0), (.bool false), (.bool false), (.bool false), (.bool false), (.int .i64 0), (.bool false), (.bool false), (.bool false), (.bool false), (.int .i64 0), (.bool false), (.bool false), (.bool false), (.bool false), (.int .i64 0), (.bool false), (.bool false), (.bool false), (.bool false), (.int .i64 0), (.bool false), (.bool false), (.bool false), (.bool false), (.int .i64 0), (.bool false), (.bool false), (.bool false), (.bool false), (.int .i64 0), (.bool false), (.bool false), (.bool false), (.bool false), (.int .i64 0), (.bool false), (.bool false), (.bool false), (.bool false), (.int .i64 0), (.bool false), (.bool false), (.bool false), (.bool false), (.int .i64 0), (.bool false), (.bool false), (.bool false), (.bool false), (.int .i64 0), (.bool false), (.bool false), (.bool false), (.bool false), (.int .i64 0), (.bool false), (.bool false), (.bool false), (.bool false), (.int .i64 0), (.bool false), (.bool false), (.bool false), (.bool false), (.int .i64 0), (.bool false), (.bool false), (.bool false), (.bool false), (.int .i64 0), (.bool false), (.bool false), (.bool false), (.bool false), (.int .i64 0), (.bool false), (.bool false), (.bool false), (.bool false), (.int .i64 0), (.bool false), (.bool false), (.bool false), (.bool false), (.int .i64 0), (.bool false), (.bool false), (.bool false), (.bool false), (.int .i64 0), (.bool false), (.bool false), (.bool false), (.bool false), (.int .i64 0), (.bool false), (.bool false), (.bool false)] 37) →
  ∃ c0_1 : Int, ∃ c1_1 : Int, ∃ c2_1 : Int, ∃ c3_1 : Bool, cellsAre H_5 b1 0 [(.int .i64 c0_1), (.int .i64 c1_1), (.int .i64 c2_1), (.bool c3_1)] ∧
  CallF Try.prog 10 #[(.pointer r1), (.pointer (some ⟨b2, 0, none⟩)), (.agg #[(.int .i64 c0_1), (.int .i64 c1_1), (.int .i64 c2_1), (.bool c3_1)])] H_5 fun u2 H_6 => ∃ r5 : Bool, u2 = (.bool r5) ∧
  ∃ r6 : Int, CallQ Try.prog 8 #[(.pointer r1)] H_6 (.int .i64 r6) ∧
  ∃ r7 : Int, (((decide (r6 < r3)) = false) → CallQ Try.prog 9 #[(.pointer r1)] H_6 (.int .i64 r7)) ∧
  ∃ v : Int, ((((decide (r6 < r3)) || (decide (r7 < r4))) = false) → cellAt H_6 b1 0 = some (.int .i64 v)) ∧
  ∃ r8 : Int, (((((decide (r6 < r3)) || (decide (r7 < r4))) = false) ∧ (!decide (v = 4)) = true) → CallQ Try.prog 8 #[(.pointer r1)] H_6 (.int .i64 r8)) ∧
  ∃ r9 : Int, ((((((decide (r6 < r3)) || (decide (r7 < r4))) = false) ∧ (!decide (v = 4)) = true) ∧ (!decide (r8 = r3)) = false) → CallQ Try.prog 9 #[(.pointer r1)] H_6 (.int .i64 r9)) ∧
  (((((decide (r6 < r3)) || (decide (r7 < r4))) || ((!decide (v = 4)) && ((!decide (r8 = r3)) || (!decide (r9 = r4)))))) = true →
  K (.bool false) H_6) ∧
  (((((decide (r6 < r3)) || (decide (r7 < r4))) || ((!decide (v = 4)) && ((!decide (r8 = r3)) || (!decide (r9 = r4)))))) = false →
  ∃ v1 : Int, ((ahead = false) → cellAt H_6 b1 0 = some (.int .i64 v1)) ∧
  ∃ v2 : Int, (((ahead = false) ∧ (decide (v1 < 2)) = true) → cellAt H_6 b1 2 = some (.int .i64 v2)) ∧
  ∃ v3 : Int, cellAt H_6 b1 0 = some (.int .i64 v3) ∧
  ∃ r10 : Int, (((decide (v3 = 4)) = true) → CallQ Try.prog 8 #[(.pointer r1)] H_6 (.int .i64 r10)) ∧
  ∃ r11 : Int, (((decide (v3 = 4)) = true) → CallQ Try.prog 9 #[(.pointer r1)] H_6 (.int .i64 r11)) ∧
  ∃ r12 : Int, (((((decide (v3 = 4)) && (decide (r10 < (IntKind.i64.wrap (r11 - lag))))) = false) ∧ (!(ahead || ((decide (v1 < 2)) && (decide (r4 < v2))))) = true) → CallQ Try.prog 8 #[(.pointer r1)] H_6 (.int .i64 r12)) ∧
  ∃ r13 : Int, (((((decide (v3 = 4)) && (decide (r10 < (IntKind.i64.wrap (r11 - lag))))) = false) ∧ (!(ahead || ((decide (v1 < 2)) && (decide (r4 < v2))))) = true) → CallQ Try.prog 9 #[(.pointer r1)] H_6 (.int .i64 r13)) ∧
  (((((decide (v3 = 4)) && (decide (r10 < (IntKind.i64.wrap (r11 - lag))))) || ((!(ahead || ((decide (v1 < 2)) && (decide (r4 < v2))))) && (decide (r13 < r12))))) = true →
  K (.bool false) H_6) ∧
  (((((decide (v3 = 4)) && (decide (r10 < (IntKind.i64.wrap (r11 - lag))))) || ((!(ahead || ((decide (v1 < 2)) && (decide (r4 < v2))))) && (decide (r13 < r12))))) = false →
  Inv (ahead || ((decide (v1 < 2)) && (decide (r4 < v2)))) (IntKind.i64.wrap (i + 1)) H_6 ∧ mu (ahead || ((decide (v1 < 2)) && (decide (r4 < v2)))) (IntKind.i64.wrap (i + 1)) H_6 < mu ahead i H_2))) ∧
  (((decide (i < (callsn : Int)))) = false →
  K (.bool true) H_2)

def MarkRises.code (lag : Int) (callsa : Option Addr) (callsn : Nat) (callsc : Nat) (H : Heap) (K : Value → Heap → Prop) : Prop :=
  CallF Try.prog 6 #[] H fun u H_ => ∃ r : Bool, u = (.bool r) ∧
  (((!r)) = true →
  K (.bool false) H_) ∧
  (((!r)) = false →
  (((decide (100 < (callsn : Int)))) = true →
  K (.bool true) H_) ∧
  (((decide (100 < (callsn : Int)))) = false →
  CallF Try.prog 7 #[(.int .i64 lag)] H_ fun u1 H_1 => ∃ r1 : Option Addr, ∃ r2 : Int, u1 = (.tuple #[(.pointer r1), (.int .i64 r2)]) ∧
  ((((!decide (r2 = 0)) || r1.isNone)) = true →
  K (.bool r1.isNone) H_1) ∧
  ((((!decide (r2 = 0)) || r1.isNone)) = false →
  ∃ (Inv : Bool → Int → Heap → Prop) (mu : Bool → Int → Heap → Nat), Inv false 0 H_1 ∧
  ∀ (ahead : Bool) (i : Int), ∀ H_2 : Heap, Inv ahead i H_2 → MarkRises.l1 lag callsa callsn K r1 Inv mu ahead i H_2)))

def MarkRises.ann : Ann := (.seq .reg (.seq (.seq .reg (.cond (.seq .reg .no) .no)) (.seq (.seq .reg (.cond (.seq .reg .no) .no)) (.seq .reg (.seq (.seq .reg (.cond (.seq .reg .no) .no)) (.seq .reg (.seq (.seq .reg (.blk (.loop [(7, .one (.bool)), (8, .one (.int .i64))] (.seq (.seq .reg (.cond .no .no)) (.seq (.blk (.seq .reg (.seq .reg (.seq .reg (.seq .reg (.seq (.seq .reg (.cond (.seq .reg .no) .no)) (.seq .reg (.seq .reg (.cond (.seq .reg .no) .no))))))))) .reg))))) (.seq .reg .no))))))))

theorem MarkRises.eq (lag : Int) (callsa : Option Addr) (callsn : Nat) (callsc : Nat) (H : Heap) (K : Value → Heap → Prop) : vcFun X Try.f3 MarkRises.ann [(.int .i64 lag), (.slice callsa callsn callsc)] H K = MarkRises.code lag callsa callsn callsc H K := by kernel_rfl

theorem MarkRises.call {lag : Int} {callsa : Option Addr} {callsn : Nat} {callsc : Nat} {H : Heap} {K : Value → Heap → Prop} (h : MarkRises.code lag callsa callsn callsc H K) : CallF Try.prog 3 #[(.int .i64 lag), (.slice callsa callsn callsc)] H K :=
  callF_of_eq (X := X) X_P X_wide X_bodied Try.func3 (MarkRises.eq lag callsa callsn callsc H K) h

end Go.Proofs.Ytomokmhkgpfkmaa
