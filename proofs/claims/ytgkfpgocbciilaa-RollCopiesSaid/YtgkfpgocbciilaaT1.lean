import Derived.Test.YtgkfpgocbciilaaE9
import Derived.Test.YtgkfpgocbciilaaProg
import Derived.KernelRfl
set_option maxRecDepth 100000
set_option linter.unusedVariables false
namespace Go.Proofs.Ytgkfpgocbciilaa
open Go Go.Nm Go.Proofs
noncomputable def X : Ctx := { P := Try.prog, quiet := [20, 21, 22], calls := [2, 3, 4, 5, 6, 7, 8, 9, 10, 11, 12, 13, 14, 15, 16, 17, 18, 19, 20, 21, 22, 23, 24, 25, 26, 28, 29, 30, 31, 32, 33, 34, 35, 36, 37, 38, 39, 40, 41, 42, 43, 44, 45, 46, 47, 48, 49, 50, 51] }
theorem X_P : X.P = Try.prog := rfl
theorem X_wide : X.P.follows .mixedOrders = true := by kernel_rfl
theorem X_all : X.calls.all (bodiedB X.P) = true := by kernel_rfl
theorem X_bodied : ∀ f, memN f X.calls = true → Bodied X.P f := bodied_all X_all

def roll_All_1.l1 (yieldl : Nat) (K : Value → Heap → Prop) (r : Option Nat) (ra : Option Addr) (rn : Nat) (Inv : Int → Heap → Prop) (mu : Int → Heap → Nat) (t15 : Int) (H_3 : Heap) : Prop :=
  (((decide (t15 < (rn : Int)))) = true →
  ((0 : Int) ≤ t15 ∧ t15 < (rn : Int)) ∧ ∃ b o : Nat, (ra = some ⟨b, o, none⟩) ∧
  ∃ v2 : Int, cellAt H_3 b (o + t15.toNat) = some (.int .i64 v2) ∧
  ∃ m0 : Int, ∃ m1 : Int, ∃ m2 : Int, ReadRun Try.prog (Instr.lookup 56 (.map r) (.int .i64 v2) false) H_3 (.agg #[(.int .i64 m0), (.int .i64 m1), (.int .i64 m2)]) ∧
  YieldF Try.prog yieldl [(.int .i64 v2), (.agg #[(.int .i64 m0), (.int .i64 m1), (.int .i64 m2)])] H_3 fun u3 H_4 => ∃ r1 : Bool, u3 = (.bool r1) ∧
  (((!r1)) = true →
  K (.tuple #[]) H_4) ∧
  (((!r1)) = false →
  Inv (IntKind.i64.wrap (t15 + 1)) H_4 ∧ mu (IntKind.i64.wrap (t15 + 1)) H_4 < mu t15 H_3)) ∧
  (((decide (t15 < (rn : Int)))) = false →
  K (.tuple #[]) H_3)

def roll_All_1.code (yieldl : Nat) (c0b : Nat) (c0o : Nat) (H : Heap) (K : Value → Heap → Prop) : Prop :=
  ∃ v : Option Addr, cellAt H c0b c0o = some (.pointer v) ∧
  NN v (
  ∃ v1 : Option Nat, cellAt H (adrB v) ((adrO v) + 1) = some (.map v1) ∧
  CallF Try.prog 24 #[(.map v1)] H fun u H_ => ∃ r : Option Nat, u = (.map r) ∧
  CallF Try.prog 26 #[(.map r)] H_ fun u1 H_1 => ∃ rf : FuncId, ∃ rl : List Value, u1 = (.func (.func rf) #[] ⟨rl⟩) ∧
  CallF Try.prog 25 #[(.func (.func rf) #[] ⟨rl⟩)] H_1 fun u2 H_2 => ∃ ra : Option Addr, ∃ rn : Nat, ∃ rc : Nat, u2 = (.slice ra rn rc) ∧
  ∃ (Inv : Int → Heap → Prop) (mu : Int → Heap → Nat), Inv 0 H_2 ∧
  ∀ (t15 : Int), ∀ H_3 : Heap, Inv t15 H_3 → roll_All_1.l1 yieldl K r ra rn Inv mu t15 H_3)

def roll_All_1.ann : Ann := (.seq .reg (.seq .reg (.blk (.loop [(15, .one (.int .i64))] (.seq .reg (.seq (.cond .no .no) (.seq (.blk (.seq .reg (.seq .reg (.cond .no .no)))) .reg)))))))

theorem roll_All_1.eq (yieldl : Nat) (c0b : Nat) (c0o : Nat) (H : Heap) (K : Value → Heap → Prop) : vcFun X Try.f23 roll_All_1.ann [(.func (.yield yieldl) #[] #[]), (.pointer (some ⟨c0b, c0o, none⟩))] H K = roll_All_1.code yieldl c0b c0o H K := by kernel_rfl

theorem roll_All_1.call {yieldl : Nat} {c0b : Nat} {c0o : Nat} {H : Heap} {K : Value → Heap → Prop} (h : roll_All_1.code yieldl c0b c0o H K) : CallF Try.prog 23 #[(.func (.yield yieldl) #[] #[]), (.pointer (some ⟨c0b, c0o, none⟩))] H K :=
  callF_of_eq (X := X) X_P X_wide X_bodied Try.func23 (roll_All_1.eq yieldl c0b c0o H K) h

def R15_Roll_full.r1 (Inv : Int → Int → Heap → Prop) (mu : Int → Int → Heap → Nat) (n : Int) (i : Int) (H_ : Heap) (n1 : Int) (H_1 : Heap) : Prop :=
  Inv n1 (IntKind.i64.wrap (i + 1)) H_1 ∧ mu n1 (IntKind.i64.wrap (i + 1)) H_1 < mu n i H_

def R15_Roll_full.l2 (rb : Nat) (ro : Nat) (K : Value → Heap → Prop) (Inv : Int → Int → Heap → Prop) (mu : Int → Int → Heap → Nat) (n : Int) (i : Int) (H_ : Heap) : Prop :=
  (((decide (i < 64))) = true →
  ((0 : Int) ≤ i ∧ i < 64) ∧
  ∃ v : Int, cellAt H_ rb (ro + 1 + i.toNat * 3) = some (.int .i64 v) ∧
  ∀ Jn : Int → Heap → Prop, (∀ (n1 : Int), ∀ H_1 : Heap, R15_Roll_full.r1 Inv mu n i H_ n1 H_1 → Jn n1 H_1) →
  (((decide (0 < v))) = true →
  Jn (IntKind.i64.wrap (n + 1)) H_) ∧
  (((decide (0 < v))) = false →
  Jn n H_)) ∧
  (((decide (i < 64))) = false →
  ∃ v1 : Int, cellAt H_ rb ro = some (.int .i64 v1) ∧
  K (.bool (decide (v1 ≤ n))) H_)

def R15_Roll_full.code (rb : Nat) (ro : Nat) (H : Heap) (K : Value → Heap → Prop) : Prop :=
  ∃ (Inv : Int → Int → Heap → Prop) (mu : Int → Int → Heap → Nat), Inv 0 0 H ∧
  ∀ (n : Int) (i : Int), ∀ H_ : Heap, Inv n i H_ → R15_Roll_full.l2 rb ro K Inv mu n i H_

def R15_Roll_full.ann : Ann := (.seq .reg (.seq .reg (.seq (.seq .reg (.blk (.loop [(3, .one (.int .i64)), (4, .one (.int .i64))] (.seq (.seq .reg (.cond .no .no)) (.seq (.blk (.seq .reg (.condJ [(3, .one (.int .i64))] .reg .no))) .reg))))) (.seq .reg .no))))

theorem R15_Roll_full.eq (rb : Nat) (ro : Nat) (H : Heap) (K : Value → Heap → Prop) : vcFun X Try.f22 R15_Roll_full.ann [(.pointer (some ⟨rb, ro, none⟩))] H K = R15_Roll_full.code rb ro H K := by kernel_rfl

theorem R15_Roll_full.call {rb : Nat} {ro : Nat} {H : Heap} {K : Value → Heap → Prop} (h : R15_Roll_full.code rb ro H K) : CallF Try.prog 22 #[(.pointer (some ⟨rb, ro, none⟩))] H K :=
  callF_of_eq (X := X) X_P X_wide X_bodied Try.func22 (R15_Roll_full.eq rb ro H K) h

def R15_wrong.code (agent : Int) (boot : Int) (now : Int) (H : Heap) (K : Value → Heap → Prop) : Prop :=
  K (.bool ((((((decide (agent < 0)) || (decide (63 < agent))) || (decide (boot < 1))) || (decide (1099511627776 < boot))) || (decide (now < 0))) || (decide (4611686018427387903 < now)))) H

def R15_wrong.ann : Ann := (.seq .reg (.seq .reg .no))

theorem R15_wrong.eq (agent : Int) (boot : Int) (now : Int) (H : Heap) (K : Value → Heap → Prop) : vcFun X Try.f21 R15_wrong.ann [(.int .i64 agent), (.int .i64 boot), (.int .i64 now)] H K = R15_wrong.code agent boot now H K := by kernel_rfl

theorem R15_wrong.call {agent : Int} {boot : Int} {now : Int} {H : Heap} {K : Value → Heap → Prop} (h : R15_wrong.code agent boot now H K) : CallF Try.prog 21 #[(.int .i64 agent), (.int .i64 boot), (.int .i64 now)] H K :=
  callF_of_eq (X := X) X_P X_wide X_bodied Try.func21 (R15_wrong.eq agent boot now H K) h

def roll_within.code (agent : Int) (boot : Int) (at_ : Int) (H : Heap) (K : Value → Heap → Prop) : Prop :=
  K (.bool ((((((decide (0 ≤ agent)) && (decide (agent < 64))) && (decide (1 ≤ boot))) && (decide (boot ≤ 1099511627776))) && (decide (0 ≤ at_))) && (decide (at_ ≤ 4611686018427387903)))) H

def roll_within.ann : Ann := (.seq .reg (.seq .reg .no))

theorem roll_within.eq (agent : Int) (boot : Int) (at_ : Int) (H : Heap) (K : Value → Heap → Prop) : vcFun X Try.f20 roll_within.ann [(.int .i64 agent), (.int .i64 boot), (.int .i64 at_)] H K = roll_within.code agent boot at_ H K := by kernel_rfl

theorem roll_within.call {agent : Int} {boot : Int} {at_ : Int} {H : Heap} {K : Value → Heap → Prop} (h : roll_within.code agent boot at_ H K) : CallF Try.prog 20 #[(.int .i64 agent), (.int .i64 boot), (.int .i64 at_)] H K :=
  callF_of_eq (X := X) X_P X_wide X_bodied Try.func20 (roll_within.eq agent boot at_ H K) h

def roll_Clone.code (rb : Nat) (ro : Nat) (H : Heap) (K : Value → Heap → Prop) : Prop :=
  ∃ v : Int, cellAt H rb ro = some (.int .i64 v) ∧
  ∃ v1 : Option Nat, cellAt H rb (ro + 1) = some (.map v1) ∧
  CallF Try.prog 24 #[(.map v1)] H fun u H_ => ∃ r : Option Nat, u = (.map r) ∧
  cellAt H_ rb ro = some (.int .i64 v) ∧
  ∀ (b : Nat) (H_1 : Heap), b = H_.size → H_1 = H_.push (.cells #[(.int .i64 v), (.map r)] 58) →
  K (.pointer (some ⟨b, 0, none⟩)) H_1

def roll_Clone.ann : Ann := (.seq .reg (.seq .reg .no))

theorem roll_Clone.eq (rb : Nat) (ro : Nat) (H : Heap) (K : Value → Heap → Prop) : vcFun X Try.f19 roll_Clone.ann [(.pointer (some ⟨rb, ro, none⟩))] H K = roll_Clone.code rb ro H K := by kernel_rfl

theorem roll_Clone.call {rb : Nat} {ro : Nat} {H : Heap} {K : Value → Heap → Prop} (h : roll_Clone.code rb ro H K) : CallF Try.prog 19 #[(.pointer (some ⟨rb, ro, none⟩))] H K :=
  callF_of_eq (X := X) X_P X_wide X_bodied Try.func19 (roll_Clone.eq rb ro H K) h

def roll_All.code (rb : Nat) (ro : Nat) (H : Heap) (K : Value → Heap → Prop) : Prop :=
  ∀ (b : Nat) (H_ : Heap), b = H.size → H_ = H.push (.cells #[(.pointer (some ⟨rb, ro, none⟩))] 24) →
  K (.func (.func 23) #[] #[(.pointer (some ⟨b, 0, none⟩))]) H_

def roll_All.ann : Ann := (.seq .reg (.seq .reg .no))

theorem roll_All.eq (rb : Nat) (ro : Nat) (H : Heap) (K : Value → Heap → Prop) : vcFun X Try.f18 roll_All.ann [(.pointer (some ⟨rb, ro, none⟩))] H K = roll_All.code rb ro H K := by kernel_rfl

theorem roll_All.call {rb : Nat} {ro : Nat} {H : Heap} {K : Value → Heap → Prop} (h : roll_All.code rb ro H K) : CallF Try.prog 18 #[(.pointer (some ⟨rb, ro, none⟩))] H K :=
  callF_of_eq (X := X) X_P X_wide X_bodied Try.func18 (roll_All.eq rb ro H K) h

def roll_Is.code (rb : Nat) (ro : Nat) (agent : Int) (epoch : Int) (H : Heap) (K : Value → Heap → Prop) : Prop :=
  ∃ v : Option Nat, cellAt H rb (ro + 1) = some (.map v) ∧
  ∃ m0 : Int, ∃ m1 : Int, ∃ m2 : Int, ∃ there : Bool, ReadRun Try.prog (Instr.lookup 56 (.map v) (.int .i64 agent) true) H (.tuple #[(.agg #[(.int .i64 m0), (.int .i64 m1), (.int .i64 m2)]), (.bool there)]) ∧
  ∀ (b : Nat) (H_ : Heap), b = H.size → H_ = H.push (.cells #[(.int .i64 0), (.int .i64 0), (.int .i64 0)] 34) →
  canSet H_ b 0 [(.int .i64 m0), (.int .i64 m1), (.int .i64 m2)] ∧
  ∀ H_1 : Heap, H_1 = setAll H_ b 0 [(.int .i64 m0), (.int .i64 m1), (.int .i64 m2)] →
  ∃ v1 : Int, ((there = true) → cellAt H_1 b 0 = some (.int .i64 v1)) ∧
  K (.bool (there && (decide (v1 = epoch)))) H_1

def roll_Is.ann : Ann := (.seq .reg (.seq .reg (.seq .reg .no)))

theorem roll_Is.eq (rb : Nat) (ro : Nat) (agent : Int) (epoch : Int) (H : Heap) (K : Value → Heap → Prop) : vcFun X Try.f17 roll_Is.ann [(.pointer (some ⟨rb, ro, none⟩)), (.int .i64 agent), (.int .i64 epoch)] H K = roll_Is.code rb ro agent epoch H K := by kernel_rfl

theorem roll_Is.call {rb : Nat} {ro : Nat} {agent : Int} {epoch : Int} {H : Heap} {K : Value → Heap → Prop} (h : roll_Is.code rb ro agent epoch H K) : CallF Try.prog 17 #[(.pointer (some ⟨rb, ro, none⟩)), (.int .i64 agent), (.int .i64 epoch)] H K :=
  callF_of_eq (X := X) X_P X_wide X_bodied Try.func17 (roll_Is.eq rb ro agent epoch H K) h

def R15_Roll_Of.code (rb : Nat) (ro : Nat) (agent : Int) (H : Heap) (K : Value → Heap → Prop) : Prop :=
  ∀ (b : Nat) (H_ : Heap), b = H.size → H_ = H.push (.cells #[(.int .i64 0), (.int .i64 0), (.int .i64 0)] 37) →
  ((((decide (agent < 0)) || (decide (63 < agent)))) = true →
  canSet H_ b 0 [(.int .i64 0), (.int .i64 0), (.int .i64 0)] ∧
  ∀ H_1 : Heap, H_1 = setAll H_ b 0 [(.int .i64 0), (.int .i64 0), (.int .i64 0)] →
  ∃ res0 : Int, ∃ res1 : Int, ∃ res2 : Int, cellsAre H_1 b 0 [(.int .i64 res0), (.int .i64 res1), (.int .i64 res2)] ∧
  K (.agg #[(.int .i64 res0), (.int .i64 res1), (.int .i64 res2)]) H_1) ∧
  ((((decide (agent < 0)) || (decide (63 < agent)))) = false →
  ((0 : Int) ≤ agent ∧ agent < 64) ∧
  ∃ c0 : Int, ∃ c1 : Int, ∃ c2 : Int, cellsAre H_ rb (ro + 1 + agent.toNat * 3) [(.int .i64 c0), (.int .i64 c1), (.int .i64 c2)] ∧
  canSet H_ b 0 [(.int .i64 c0), (.int .i64 c1), (.int .i64 c2)] ∧
  ∀ H_2 : Heap, H_2 = setAll H_ b 0 [(.int .i64 c0), (.int .i64 c1), (.int .i64 c2)] →
  ∃ res0_1 : Int, ∃ res1_1 : Int, ∃ res2_1 : Int, cellsAre H_2 b 0 [(.int .i64 res0_1), (.int .i64 res1_1), (.int .i64 res2_1)] ∧
  K (.agg #[(.int .i64 res0_1), (.int .i64 res1_1), (.int .i64 res2_1)]) H_2)

def R15_Roll_Of.ann : Ann := (.seq .reg (.seq (.seq .reg (.cond (.seq .reg .no) .no)) (.seq .reg .no)))

theorem R15_Roll_Of.eq (rb : Nat) (ro : Nat) (agent : Int) (H : Heap) (K : Value → Heap → Prop) : vcFun X Try.f16 R15_Roll_Of.ann [(.pointer (some ⟨rb, ro, none⟩)), (.int .i64 agent)] H K = R15_Roll_Of.code rb ro agent H K := by kernel_rfl

theorem R15_Roll_Of.call {rb : Nat} {ro : Nat} {agent : Int} {H : Heap} {K : Value → Heap → Prop} (h : R15_Roll_Of.code rb ro agent H K) : CallF Try.prog 16 #[(.pointer (some ⟨rb, ro, none⟩)), (.int .i64 agent)] H K :=
  callF_of_eq (X := X) X_P X_wide X_bodied Try.func16 (R15_Roll_Of.eq rb ro agent H K) h

def roll_Of.code (rb : Nat) (ro : Nat) (agent : Int) (H : Heap) (K : Value → Heap → Prop) : Prop :=
  ∀ (b : Nat) (H_ : Heap), b = H.size → H_ = H.push (.cells #[(.int .i64 0), (.int .i64 0), (.int .i64 0)] 34) →
  ∃ v : Option Nat, cellAt H_ rb (ro + 1) = some (.map v) ∧
  ∃ m0 : Int, ∃ m1 : Int, ∃ m2 : Int, ∃ there : Bool, ReadRun Try.prog (Instr.lookup 56 (.map v) (.int .i64 agent) true) H_ (.tuple #[(.agg #[(.int .i64 m0), (.int .i64 m1), (.int .i64 m2)]), (.bool there)]) ∧
  ∀ (b1 : Nat) (H_1 : Heap), b1 = H_.size → H_1 = H_.push (.cells #[(.int .i64 0), (.int .i64 0), (.int .i64 0)] 34) →
  canSet H_1 b1 0 [(.int .i64 m0), (.int .i64 m1), (.int .i64 m2)] ∧
  ∀ H_2 : Heap, H_2 = setAll H_1 b1 0 [(.int .i64 m0), (.int .i64 m1), (.int .i64 m2)] →
  ∃ c0 : Int, ∃ c1 : Int, ∃ c2 : Int, cellsAre H_2 b1 0 [(.int .i64 c0), (.int .i64 c1), (.int .i64 c2)] ∧
  canSet H_2 b 0 [(.int .i64 c0), (.int .i64 c1), (.int .i64 c2)] ∧
  ∀ H_3 : Heap, H_3 = setAll H_2 b 0 [(.int .i64 c0), (.int .i64 c1), (.int .i64 c2)] →
  ∃ res0 : Int, ∃ res1 : Int, ∃ res2 : Int, cellsAre H_3 b 0 [(.int .i64 res0), (.int .i64 res1), (.int .i64 res2)] ∧
  K (.tuple #[(.agg #[(.int .i64 res0), (.int .i64 res1), (.int .i64 res2)]), (.bool there)]) H_3

def roll_Of.ann : Ann := (.seq .reg (.seq .reg (.seq .reg .no)))

theorem roll_Of.eq (rb : Nat) (ro : Nat) (agent : Int) (H : Heap) (K : Value → Heap → Prop) : vcFun X Try.f15 roll_Of.ann [(.pointer (some ⟨rb, ro, none⟩)), (.int .i64 agent)] H K = roll_Of.code rb ro agent H K := by kernel_rfl

theorem roll_Of.call {rb : Nat} {ro : Nat} {agent : Int} {H : Heap} {K : Value → Heap → Prop} (h : roll_Of.code rb ro agent H K) : CallF Try.prog 15 #[(.pointer (some ⟨rb, ro, none⟩)), (.int .i64 agent)] H K :=
  callF_of_eq (X := X) X_P X_wide X_bodied Try.func15 (roll_Of.eq rb ro agent H K) h

def Agree.l1 (b : Nat) (b1 : Nat) (b2 : Nat) (H_4 : Heap) (R : Loop) (K_ : Value → Heap → Prop) (y : Int) (b3 : Nat) (Inv : Heap → Prop) (mu : Heap → Nat) (H_11 : Heap) : Prop :=
  ∃ v1 : Int, cellAt H_11 b2 0 = some (.int .i64 v1) ∧
  (((decide (v1 < y))) = true →
  ∃ v2 : Option Addr, cellAt H_11 b 0 = some (.pointer v2) ∧
  ∃ v3 : Int, cellAt H_11 b2 0 = some (.int .i64 v3) ∧
  NN v2 (
  ((0 : Int) ≤ v3 ∧ v3 < 64) ∧
  ∃ v4 : Int, cellAt H_11 (adrB v2) ((adrO v2) + 1 + v3.toNat * 3) = some (.int .i64 v4) ∧
  (((decide (0 < v4))) = true →
  canSet H_11 b1 0 [(.bool false)] ∧
  ∀ H_12 : Heap, H_12 = setAll H_11 b1 0 [(.bool false)] →
  H_12[H_4.size + 1]? = some (.loop { R with state := .busy }) ∧ K_ (.bool false) (setLoop H_12 (H_4.size + 1) { R with state := .done, pending := some .ret })) ∧
  (((decide (0 < v4))) = false →
  ∃ v5 : Int, cellAt H_11 b2 0 = some (.int .i64 v5) ∧
  canSet H_11 b2 0 [(.int .i64 (IntKind.i64.wrap (v5 + 1)))] ∧
  ∀ H_13 : Heap, H_13 = setAll H_11 b2 0 [(.int .i64 (IntKind.i64.wrap (v5 + 1)))] →
  Inv H_13 ∧ mu H_13 < mu H_11))) ∧
  (((decide (v1 < y))) = false →
  ∃ c0 : Int, ∃ c1 : Int, ∃ c2 : Int, cellsAre H_11 b3 0 [(.int .i64 c0), (.int .i64 c1), (.int .i64 c2)] ∧
  ∃ v6 : Option Addr, cellAt H_11 b 0 = some (.pointer v6) ∧
  NN v6 (
  ((0 : Int) ≤ y ∧ y < 64) ∧
  ∃ c0_1 : Int, ∃ c1_1 : Int, ∃ c2_1 : Int, cellsAre H_11 (adrB v6) ((adrO v6) + 1 + y.toNat * 3) [(.int .i64 c0_1), (.int .i64 c1_1), (.int .i64 c2_1)] ∧
  CallF Try.prog 11 #[(.agg #[(.int .i64 c0), (.int .i64 c1), (.int .i64 c2)])] H_11 fun u1 H_14 => ∃ r0 : Int, ∃ r1 : Int, ∃ r2 : Int, u1 = (.agg #[(.int .i64 r0), (.int .i64 r1), (.int .i64 r2)]) ∧
  cellsAre H_14 (adrB v6) ((adrO v6) + 1 + y.toNat * 3) [(.int .i64 c0_1), (.int .i64 c1_1), (.int .i64 c2_1)] ∧
  cellAt H_14 b 0 = some (.pointer v6) ∧
  ∃ eq : Bool, EqRun Try.prog .neq 37 (.agg #[(.int .i64 r0), (.int .i64 r1), (.int .i64 r2)]) (.agg #[(.int .i64 c0_1), (.int .i64 c1_1), (.int .i64 c2_1)]) eq ∧
  ∃ v7 : Int, ((eq = false) → cellAt H_14 b3 0 = some (.int .i64 v7)) ∧
  (((eq || (decide (v7 < 1)))) = true →
  canSet H_14 b1 0 [(.bool false)] ∧
  ∀ H_15 : Heap, H_15 = setAll H_14 b1 0 [(.bool false)] →
  H_15[H_4.size + 1]? = some (.loop { R with state := .busy }) ∧ K_ (.bool false) (setLoop H_15 (H_4.size + 1) { R with state := .done, pending := some .ret })) ∧
  (((eq || (decide (v7 < 1)))) = false →
  canSet H_14 b2 0 [(.int .i64 (IntKind.i64.wrap (y + 1)))] ∧
  ∀ H_16 : Heap, H_16 = setAll H_14 b2 0 [(.int .i64 (IntKind.i64.wrap (y + 1)))] →
  H_16[H_4.size + 1]? = some (.loop { R with state := .busy }) ∧ K_ (.bool true) (setLoop H_16 (H_4.size + 1) R))))

def Agree.y2 (b : Nat) (b1 : Nat) (b2 : Nat) (H_4 : Heap) (R : Loop) (vs : List Value) (H_6 : Heap) (K_ : Value → Heap → Prop) : Prop :=
  ∃ y : Int, ∃ y0 : Int, ∃ y1 : Int, ∃ y2 : Int, vs = [(.int .i64 y), (.agg #[(.int .i64 y0), (.int .i64 y1), (.int .i64 y2)])] ∧
  H_6[H_4.size + 1]? = some (.loop R) ∧
  ∀ (b3 : Nat) (H_7 : Heap), b3 = H_6.size → H_7 = H_6.push (.cells #[(.int .i64 0), (.int .i64 0), (.int .i64 0)] 34) →
  canSet H_7 b3 0 [(.int .i64 y0), (.int .i64 y1), (.int .i64 y2)] ∧
  ∀ H_8 : Heap, H_8 = setAll H_7 b3 0 [(.int .i64 y0), (.int .i64 y1), (.int .i64 y2)] →
  H_8[H_4.size + 1]? = some (.loop R) ∧
  ∀ H_9 : Heap, H_9 = setLoop H_8 (H_4.size + 1) { R with state := .busy } →
  ∃ v : Int, cellAt H_9 b2 0 = some (.int .i64 v) ∧
  ((((decide (y < v)) || (decide (63 < y)))) = true →
  canSet H_9 b1 0 [(.bool false)] ∧
  ∀ H_10 : Heap, H_10 = setAll H_9 b1 0 [(.bool false)] →
  H_10[H_4.size + 1]? = some (.loop { R with state := .busy }) ∧ K_ (.bool false) (setLoop H_10 (H_4.size + 1) { R with state := .done, pending := some .ret })) ∧
  ((((decide (y < v)) || (decide (63 < y)))) = false →
  ∃ (Inv : Heap → Prop) (mu : Heap → Nat), Inv H_9 ∧
  ∀ H_11 : Heap, Inv H_11 → Agree.l1 b b1 b2 H_4 R K_ y b3 Inv mu H_11)

def Agree.l3 (K : Value → Heap → Prop) (b : Nat) (b1 : Nat) (b2 : Nat) (H_4 : Heap) (Inv1 : Heap → Prop) (mu1 : Heap → Nat) (H_19 : Heap) : Prop :=
  ∃ v8 : Int, cellAt H_19 b2 0 = some (.int .i64 v8) ∧
  (((decide (v8 < 64))) = true →
  ∃ v9 : Option Addr, cellAt H_19 b 0 = some (.pointer v9) ∧
  ∃ v10 : Int, cellAt H_19 b2 0 = some (.int .i64 v10) ∧
  NN v9 (
  ((0 : Int) ≤ v10 ∧ v10 < 64) ∧
  ∃ v11 : Int, cellAt H_19 (adrB v9) ((adrO v9) + 1 + v10.toNat * 3) = some (.int .i64 v11) ∧
  (((decide (0 < v11))) = true →
  canSet H_19 b1 0 [(.bool false)] ∧
  ∀ H_20 : Heap, H_20 = setAll H_19 b1 0 [(.bool false)] →
  H_20[H_4.size]? = some (.deferred (some [])) ∧
  ∃ res1 : Bool, cellAt (H_20.setIfInBounds H_4.size (.deferred none)) b1 0 = some (.bool res1) ∧
  K (.bool res1) (H_20.setIfInBounds H_4.size (.deferred none))) ∧
  (((decide (0 < v11))) = false →
  ∃ v12 : Int, cellAt H_19 b2 0 = some (.int .i64 v12) ∧
  canSet H_19 b2 0 [(.int .i64 (IntKind.i64.wrap (v12 + 1)))] ∧
  ∀ H_21 : Heap, H_21 = setAll H_19 b2 0 [(.int .i64 (IntKind.i64.wrap (v12 + 1)))] →
  Inv1 H_21 ∧ mu1 H_21 < mu1 H_19))) ∧
  (((decide (v8 < 64))) = false →
  canSet H_19 b1 0 [(.bool true)] ∧
  ∀ H_22 : Heap, H_22 = setAll H_19 b1 0 [(.bool true)] →
  H_22[H_4.size]? = some (.deferred (some [])) ∧
  ∃ res2 : Bool, cellAt (H_22.setIfInBounds H_4.size (.deferred none)) b1 0 = some (.bool res2) ∧
  K (.bool res2) (H_22.setIfInBounds H_4.size (.deferred none)))

def Agree.code (rb : Nat) (ro : Nat) (sb : Nat) (so : Nat) (H : Heap) (K : Value → Heap → Prop) : Prop :=
  ∀ (b : Nat) (H_ : Heap), b = H.size → H_ = H.push (.cells #[(.pointer (some ⟨sb, so, none⟩))] 28) →
  ∀ (b1 : Nat) (H_1 : Heap), b1 = H_.size → H_1 = H_.push (.cells #[(.bool false)] 4) →
  ∀ (b2 : Nat) (H_2 : Heap), b2 = H_1.size → H_2 = H_1.push (.cells #[(.int .i64 0)] 2) →
  canSet H_2 b2 0 [(.int .i64 0)] ∧
  ∀ H_3 : Heap, H_3 = setAll H_2 b2 0 [(.int .i64 0)] →
  CallF Try.prog 18 #[(.pointer (some ⟨rb, ro, none⟩))] H_3 fun u H_4 => ∃ rf : FuncId, ∃ rl : List Value, u = (.func (.func rf) #[] ⟨rl⟩) ∧
  ((false) = true →
  canSet H_4 b1 0 [(.bool false)] ∧
  ∀ H_5 : Heap, H_5 = setAll H_4 b1 0 [(.bool false)] →
  ∃ res : Bool, cellAt H_5 b1 0 = some (.bool res) ∧
  K (.bool res) H_5) ∧
  ((false) = false →
  memN rf X.calls = true ∧
  ∀ R : Loop, R.state = .ready → R.pending = none →
  (∀ (vs : List Value) (H_6 : Heap) (K_ : Value → Heap → Prop), Agree.y2 b b1 b2 H_4 R vs H_6 K_ → YieldF Try.prog (H_4.size + 1) vs H_6 K_) →
  CallF Try.prog rf ⟨(.func (.yield (H_4.size + 1)) #[] #[]) :: rl⟩ ((H_4.push (.deferred (some []))).push (.loop R)) fun u2 H_17 => ∃ (st : LoopState) (pd : Option Code), st ≠ .busy ∧ H_17[H_4.size + 1]? = some (.loop { R with state := st, pending := pd }) ∧
  ∀ H_18 : Heap, H_18 = setLoop H_17 (H_4.size + 1) { R with state := .exhausted, pending := pd } →
  ((pd = none ∧
  ∃ (Inv1 : Heap → Prop) (mu1 : Heap → Nat), Inv1 H_18 ∧
  ∀ H_19 : Heap, Inv1 H_19 → Agree.l3 K b b1 b2 H_4 Inv1 mu1 H_19) ∨
  pd = (some .ret) ∧
  H_18[H_4.size]? = some (.deferred (some [])) ∧
  ∃ res3 : Bool, cellAt (H_18.setIfInBounds H_4.size (.deferred none)) b1 0 = some (.bool res3) ∧
  K (.bool res3) (H_18.setIfInBounds H_4.size (.deferred none))))

def Agree.ann : Ann := (.seq .reg (.seq .reg (.seq .reg (.seq (.seq .reg (.cond (.seq .reg .no) .no)) (.seq (.seq .reg (.blk (.rng [.one (.int .i64), .agg [.int .i64, .int .i64, .int .i64]] [none, (some .ret)] (.seq .reg .reg) (.blk (.seq (.seq .reg (.cond (.seq .reg .no) .no)) (.seq (.blk (.loop [] (.seq (.seq .reg (.cond .no .no)) (.blk (.seq (.seq .reg (.cond (.seq .reg .no) .no)) .reg))))) (.seq (.seq .reg (.cond (.seq .reg .no) .no)) .reg))))))) (.seq (.blk (.loop [] (.seq (.seq .reg (.cond .no .no)) (.blk (.seq (.seq .reg (.cond (.seq .reg .no) .no)) .reg))))) (.seq .reg .no)))))))

theorem Agree.eq (rb : Nat) (ro : Nat) (sb : Nat) (so : Nat) (H : Heap) (K : Value → Heap → Prop) : vcFun X Try.f14 Agree.ann [(.pointer (some ⟨rb, ro, none⟩)), (.pointer (some ⟨sb, so, none⟩))] H K = Agree.code rb ro sb so H K := by kernel_rfl

theorem Agree.call {rb : Nat} {ro : Nat} {sb : Nat} {so : Nat} {H : Heap} {K : Value → Heap → Prop} (h : Agree.code rb ro sb so H K) : CallF Try.prog 14 #[(.pointer (some ⟨rb, ro, none⟩)), (.pointer (some ⟨sb, so, none⟩))] H K :=
  callF_of_eq (X := X) X_P X_wide X_bodied Try.func14 (Agree.eq rb ro sb so H K) h

def R15_Roll_Set.code (rb : Nat) (ro : Nat) (agent : Int) (e0 : Int) (e1 : Int) (e2 : Int) (H : Heap) (K : Value → Heap → Prop) : Prop :=
  ∀ (b : Nat) (H_ : Heap), b = H.size → H_ = H.push (.cells #[(.int .i64 e0), (.int .i64 e1), (.int .i64 e2)] 37) →
  ∃ v : Int, cellAt H_ b 1 = some (.int .i64 v) ∧
  ∃ v1 : Int, cellAt H_ b 2 = some (.int .i64 v1) ∧
  ∃ r : Bool, CallQ Try.prog 21 #[(.int .i64 agent), (.int .i64 v), (.int .i64 v1)] H_ (.bool r) ∧
  ∃ v2 : Int, ((r = false) → cellAt H_ b 0 = some (.int .i64 v2)) ∧
  ∃ v3 : Int, (((r || (decide (v2 < 1))) = false) → cellAt H_ b 0 = some (.int .i64 v3)) ∧
  ((((r || (decide (v2 < 1))) || (decide (1099511627776 < v3)))) = true →
  K (.int .i64 11) H_) ∧
  ((((r || (decide (v2 < 1))) || (decide (1099511627776 < v3)))) = false →
  ((0 : Int) ≤ agent ∧ agent < 64) ∧
  ∃ v4 : Int, cellAt H_ rb (ro + 1 + agent.toNat * 3) = some (.int .i64 v4) ∧
  (((decide (0 < v4))) = true →
  K (.int .i64 18) H_) ∧
  (((decide (0 < v4))) = false →
  ∃ r1 : Bool, CallQ Try.prog 22 #[(.pointer (some ⟨rb, ro, none⟩))] H_ (.bool r1) ∧
  ((r1) = true →
  K (.int .i64 20) H_) ∧
  ((r1) = false →
  ∃ c0 : Int, ∃ c1 : Int, ∃ c2 : Int, cellsAre H_ b 0 [(.int .i64 c0), (.int .i64 c1), (.int .i64 c2)] ∧
  ((0 : Int) ≤ agent ∧ agent < 64) ∧
  canSet H_ rb (ro + 1 + agent.toNat * 3) [(.int .i64 c0), (.int .i64 c1), (.int .i64 c2)] ∧
  ∀ H_1 : Heap, H_1 = setAll H_ rb (ro + 1 + agent.toNat * 3) [(.int .i64 c0), (.int .i64 c1), (.int .i64 c2)] →
  K (.int .i64 0) H_1)))

def R15_Roll_Set.ann : Ann := (.seq .reg (.seq (.blk (.seq .reg (.cond (.seq .reg .no) (.seq .reg (.cond (.seq .reg .no) (.seq .reg (.cond (.seq .reg .no) .no))))))) (.seq .reg (.seq .reg .no))))

theorem R15_Roll_Set.eq (rb : Nat) (ro : Nat) (agent : Int) (e0 : Int) (e1 : Int) (e2 : Int) (H : Heap) (K : Value → Heap → Prop) : vcFun X Try.f13 R15_Roll_Set.ann [(.pointer (some ⟨rb, ro, none⟩)), (.int .i64 agent), (.agg #[(.int .i64 e0), (.int .i64 e1), (.int .i64 e2)])] H K = R15_Roll_Set.code rb ro agent e0 e1 e2 H K := by kernel_rfl

theorem R15_Roll_Set.call {rb : Nat} {ro : Nat} {agent : Int} {e0 : Int} {e1 : Int} {e2 : Int} {H : Heap} {K : Value → Heap → Prop} (h : R15_Roll_Set.code rb ro agent e0 e1 e2 H K) : CallF Try.prog 13 #[(.pointer (some ⟨rb, ro, none⟩)), (.int .i64 agent), (.agg #[(.int .i64 e0), (.int .i64 e1), (.int .i64 e2)])] H K :=
  callF_of_eq (X := X) X_P X_wide X_bodied Try.func13 (R15_Roll_Set.eq rb ro agent e0 e1 e2 H K) h

def roll_Set.code (rb : Nat) (ro : Nat) (agent : Int) (e0 : Int) (e1 : Int) (e2 : Int) (H : Heap) (K : Value → Heap → Prop) : Prop :=
  ∀ (b : Nat) (H_ : Heap), b = H.size → H_ = H.push (.cells #[(.int .i64 e0), (.int .i64 e1), (.int .i64 e2)] 34) →
  ∃ v : Int, cellAt H_ b 1 = some (.int .i64 v) ∧
  ∃ v1 : Int, cellAt H_ b 2 = some (.int .i64 v1) ∧
  ∃ r : Bool, CallQ Try.prog 20 #[(.int .i64 agent), (.int .i64 v), (.int .i64 v1)] H_ (.bool r) ∧
  ∃ v2 : Int, (((!r) = false) → cellAt H_ b 0 = some (.int .i64 v2)) ∧
  ∃ v3 : Int, ((((!r) || (decide (v2 < 1))) = false) → cellAt H_ b 0 = some (.int .i64 v3)) ∧
  (((((!r) || (decide (v2 < 1))) || (decide (1099511627776 < v3)))) = true →
  K (.int .i64 11) H_) ∧
  (((((!r) || (decide (v2 < 1))) || (decide (1099511627776 < v3)))) = false →
  ∃ v4 : Option Nat, cellAt H_ rb (ro + 1) = some (.map v4) ∧
  ∃ m0 : Int, ∃ m1 : Int, ∃ m2 : Int, ∃ there : Bool, ReadRun Try.prog (Instr.lookup 56 (.map v4) (.int .i64 agent) true) H_ (.tuple #[(.agg #[(.int .i64 m0), (.int .i64 m1), (.int .i64 m2)]), (.bool there)]) ∧
  ∀ (b1 : Nat) (H_1 : Heap), b1 = H_.size → H_1 = H_.push (.cells #[(.int .i64 0), (.int .i64 0), (.int .i64 0)] 34) →
  canSet H_1 b1 0 [(.int .i64 m0), (.int .i64 m1), (.int .i64 m2)] ∧
  ∀ H_2 : Heap, H_2 = setAll H_1 b1 0 [(.int .i64 m0), (.int .i64 m1), (.int .i64 m2)] →
  ((there) = true →
  K (.int .i64 18) H_2) ∧
  ((there) = false →
  ∃ v5 : Option Nat, cellAt H_2 rb (ro + 1) = some (.map v5) ∧
  ∃ n : Int, ReadRun Try.prog (Builtin.len_ #[56] 3 #[(.map v5)]) H_2 (.int .i64 n) ∧
  ∃ v6 : Int, cellAt H_2 rb ro = some (.int .i64 v6) ∧
  (((decide (v6 ≤ n))) = true →
  K (.int .i64 20) H_2) ∧
  (((decide (v6 ≤ n))) = false →
  ∃ v7 : Option Nat, cellAt H_2 rb (ro + 1) = some (.map v7) ∧
  ∃ c0 : Int, ∃ c1 : Int, ∃ c2 : Int, cellsAre H_2 b 0 [(.int .i64 c0), (.int .i64 c1), (.int .i64 c2)] ∧
  RunW Try.prog (Instr.mapUpdate 56 (.map v7) (.int .i64 agent) (.agg #[(.int .i64 c0), (.int .i64 c1), (.int .i64 c2)])) H_2 fun u H_3 =>
  K (.int .i64 0) H_3)))

def roll_Set.ann : Ann := (.seq .reg (.seq (.seq .reg (.cond (.seq .reg .no) .no)) (.seq (.seq .reg (.seq .reg (.cond (.seq .reg .no) .no))) (.seq (.seq .reg (.cond (.seq .reg .no) .no)) (.seq .reg (.seq .reg .no))))))

theorem roll_Set.eq (rb : Nat) (ro : Nat) (agent : Int) (e0 : Int) (e1 : Int) (e2 : Int) (H : Heap) (K : Value → Heap → Prop) : vcFun X Try.f12 roll_Set.ann [(.pointer (some ⟨rb, ro, none⟩)), (.int .i64 agent), (.agg #[(.int .i64 e0), (.int .i64 e1), (.int .i64 e2)])] H K = roll_Set.code rb ro agent e0 e1 e2 H K := by kernel_rfl

theorem roll_Set.call {rb : Nat} {ro : Nat} {agent : Int} {e0 : Int} {e1 : Int} {e2 : Int} {H : Heap} {K : Value → Heap → Prop} (h : roll_Set.code rb ro agent e0 e1 e2 H K) : CallF Try.prog 12 #[(.pointer (some ⟨rb, ro, none⟩)), (.int .i64 agent), (.agg #[(.int .i64 e0), (.int .i64 e1), (.int .i64 e2)])] H K :=
  callF_of_eq (X := X) X_P X_wide X_bodied Try.func12 (roll_Set.eq rb ro agent e0 e1 e2 H K) h

def of.code (e0 : Int) (e1 : Int) (e2 : Int) (H : Heap) (K : Value → Heap → Prop) : Prop :=
  ∀ (b : Nat) (H_ : Heap), b = H.size → H_ = H.push (.cells #[(.int .i64 e0), (.int .i64 e1), (.int .i64 e2)] 34) →
  ∀ (b1 : Nat) (H_1 : Heap), b1 = H_.size → H_1 = H_.push (.cells #[(.int .i64 0), (.int .i64 0), (.int .i64 0)] 37) →
  ∃ v : Int, cellAt H_1 b 0 = some (.int .i64 v) ∧
  ∃ v1 : Int, cellAt H_1 b 1 = some (.int .i64 v1) ∧
  ∃ v2 : Int, cellAt H_1 b 2 = some (.int .i64 v2) ∧
  canSet H_1 b1 0 [(.int .i64 v), (.int .i64 v1), (.int .i64 v2)] ∧
  ∀ H_2 : Heap, H_2 = setAll H_1 b1 0 [(.int .i64 v), (.int .i64 v1), (.int .i64 v2)] →
  ∃ res0 : Int, ∃ res1 : Int, ∃ res2 : Int, cellsAre H_2 b1 0 [(.int .i64 res0), (.int .i64 res1), (.int .i64 res2)] ∧
  K (.agg #[(.int .i64 res0), (.int .i64 res1), (.int .i64 res2)]) H_2

def of.ann : Ann := (.seq .reg (.seq .reg .no))

theorem of.eq (e0 : Int) (e1 : Int) (e2 : Int) (H : Heap) (K : Value → Heap → Prop) : vcFun X Try.f11 of.ann [(.agg #[(.int .i64 e0), (.int .i64 e1), (.int .i64 e2)])] H K = of.code e0 e1 e2 H K := by kernel_rfl

theorem of.call {e0 : Int} {e1 : Int} {e2 : Int} {H : Heap} {K : Value → Heap → Prop} (h : of.code e0 e1 e2 H K) : CallF Try.prog 11 #[(.agg #[(.int .i64 e0), (.int .i64 e1), (.int .i64 e2)])] H K :=
  callF_of_eq (X := X) X_P X_wide X_bodied Try.func11 (of.eq e0 e1 e2 H K) h

def R15_Roll_Grant.code (rb : Nat) (ro : Nat) (agent : Int) (boot : Int) (now : Int) (H : Heap) (K : Value → Heap → Prop) : Prop :=
  ∀ (b : Nat) (H_ : Heap), b = H.size → H_ = H.push (.cells #[(.int .i64 0), (.int .i64 0), (.int .i64 0)] 37) →
  ∃ r : Bool, CallQ Try.prog 21 #[(.int .i64 agent), (.int .i64 boot), (.int .i64 now)] H_ (.bool r) ∧
  ((r) = true →
  canSet H_ b 0 [(.int .i64 0), (.int .i64 0), (.int .i64 0)] ∧
  ∀ H_1 : Heap, H_1 = setAll H_ b 0 [(.int .i64 0), (.int .i64 0), (.int .i64 0)] →
  ∃ res0 : Int, ∃ res1 : Int, ∃ res2 : Int, cellsAre H_1 b 0 [(.int .i64 res0), (.int .i64 res1), (.int .i64 res2)] ∧
  K (.tuple #[(.agg #[(.int .i64 res0), (.int .i64 res1), (.int .i64 res2)]), (.bool false), (.int .i64 11)]) H_1) ∧
  ((r) = false →
  ((0 : Int) ≤ agent ∧ agent < 64) ∧
  ∃ c0 : Int, ∃ c1 : Int, ∃ c2 : Int, cellsAre H_ rb (ro + 1 + agent.toNat * 3) [(.int .i64 c0), (.int .i64 c1), (.int .i64 c2)] ∧
  ∀ (b1 : Nat) (H_2 : Heap), b1 = H_.size → H_2 = H_.push (.cells #[(.int .i64 0), (.int .i64 0), (.int .i64 0)] 37) →
  canSet H_2 b1 0 [(.int .i64 c0), (.int .i64 c1), (.int .i64 c2)] ∧
  ∀ H_3 : Heap, H_3 = setAll H_2 b1 0 [(.int .i64 c0), (.int .i64 c1), (.int .i64 c2)] →
  ∃ v : Int, cellAt H_3 b1 0 = some (.int .i64 v) ∧
  ∃ v1 : Int, (((decide (0 < v)) = true) → cellAt H_3 b1 1 = some (.int .i64 v1)) ∧
  ((((decide (0 < v)) && (decide (v1 = boot)))) = true →
  ∃ c0_1 : Int, ∃ c1_1 : Int, ∃ c2_1 : Int, cellsAre H_3 b1 0 [(.int .i64 c0_1), (.int .i64 c1_1), (.int .i64 c2_1)] ∧
  canSet H_3 b 0 [(.int .i64 c0_1), (.int .i64 c1_1), (.int .i64 c2_1)] ∧
  ∀ H_4 : Heap, H_4 = setAll H_3 b 0 [(.int .i64 c0_1), (.int .i64 c1_1), (.int .i64 c2_1)] →
  ∃ res0_1 : Int, ∃ res1_1 : Int, ∃ res2_1 : Int, cellsAre H_4 b 0 [(.int .i64 res0_1), (.int .i64 res1_1), (.int .i64 res2_1)] ∧
  K (.tuple #[(.agg #[(.int .i64 res0_1), (.int .i64 res1_1), (.int .i64 res2_1)]), (.bool false), (.int .i64 0)]) H_4) ∧
  ((((decide (0 < v)) && (decide (v1 = boot)))) = false →
  ∃ v2 : Int, cellAt H_3 b1 0 = some (.int .i64 v2) ∧
  ∃ v3 : Int, (((decide (0 < v2)) = true) → cellAt H_3 b1 1 = some (.int .i64 v3)) ∧
  ((((decide (0 < v2)) && (decide (boot < v3)))) = true →
  canSet H_3 b 0 [(.int .i64 0), (.int .i64 0), (.int .i64 0)] ∧
  ∀ H_5 : Heap, H_5 = setAll H_3 b 0 [(.int .i64 0), (.int .i64 0), (.int .i64 0)] →
  ∃ res0_2 : Int, ∃ res1_2 : Int, ∃ res2_2 : Int, cellsAre H_5 b 0 [(.int .i64 res0_2), (.int .i64 res1_2), (.int .i64 res2_2)] ∧
  K (.tuple #[(.agg #[(.int .i64 res0_2), (.int .i64 res1_2), (.int .i64 res2_2)]), (.bool false), (.int .i64 22)]) H_5) ∧
  ((((decide (0 < v2)) && (decide (boot < v3)))) = false →
  ∃ v4 : Int, cellAt H_3 b1 0 = some (.int .i64 v4) ∧
  (((decide (v4 = 1099511627776))) = true →
  canSet H_3 b 0 [(.int .i64 0), (.int .i64 0), (.int .i64 0)] ∧
  ∀ H_6 : Heap, H_6 = setAll H_3 b 0 [(.int .i64 0), (.int .i64 0), (.int .i64 0)] →
  ∃ res0_3 : Int, ∃ res1_3 : Int, ∃ res2_3 : Int, cellsAre H_6 b 0 [(.int .i64 res0_3), (.int .i64 res1_3), (.int .i64 res2_3)] ∧
  K (.tuple #[(.agg #[(.int .i64 res0_3), (.int .i64 res1_3), (.int .i64 res2_3)]), (.bool false), (.int .i64 17)]) H_6) ∧
  (((decide (v4 = 1099511627776))) = false →
  ∃ v5 : Int, cellAt H_3 b1 0 = some (.int .i64 v5) ∧
  ∃ r1 : Bool, (((decide (v5 = 0)) = true) → CallQ Try.prog 22 #[(.pointer (some ⟨rb, ro, none⟩))] H_3 (.bool r1)) ∧
  ((((decide (v5 = 0)) && r1)) = true →
  canSet H_3 b 0 [(.int .i64 0), (.int .i64 0), (.int .i64 0)] ∧
  ∀ H_7 : Heap, H_7 = setAll H_3 b 0 [(.int .i64 0), (.int .i64 0), (.int .i64 0)] →
  ∃ res0_4 : Int, ∃ res1_4 : Int, ∃ res2_4 : Int, cellsAre H_7 b 0 [(.int .i64 res0_4), (.int .i64 res1_4), (.int .i64 res2_4)] ∧
  K (.tuple #[(.agg #[(.int .i64 res0_4), (.int .i64 res1_4), (.int .i64 res2_4)]), (.bool false), (.int .i64 20)]) H_7) ∧
  ((((decide (v5 = 0)) && r1)) = false →
  ∃ v6 : Int, cellAt H_3 b1 0 = some (.int .i64 v6) ∧
  ((0 : Int) ≤ agent ∧ agent < 64) ∧
  canSet H_3 rb (ro + 1 + agent.toNat * 3) [(.int .i64 (IntKind.i64.wrap (v6 + 1))), (.int .i64 boot), (.int .i64 now)] ∧
  ∀ H_8 : Heap, H_8 = setAll H_3 rb (ro + 1 + agent.toNat * 3) [(.int .i64 (IntKind.i64.wrap (v6 + 1))), (.int .i64 boot), (.int .i64 now)] →
  ((0 : Int) ≤ agent ∧ agent < 64) ∧
  ∃ c0_2 : Int, ∃ c1_2 : Int, ∃ c2_2 : Int, cellsAre H_8 rb (ro + 1 + agent.toNat * 3) [(.int .i64 c0_2), (.int .i64 c1_2), (.int .i64 c2_2)] ∧
  canSet H_8 b 0 [(.int .i64 c0_2), (.int .i64 c1_2), (.int .i64 c2_2)] ∧
  ∀ H_9 : Heap, H_9 = setAll H_8 b 0 [(.int .i64 c0_2), (.int .i64 c1_2), (.int .i64 c2_2)] →
  ∃ res0_5 : Int, ∃ res1_5 : Int, ∃ res2_5 : Int, cellsAre H_9 b 0 [(.int .i64 res0_5), (.int .i64 res1_5), (.int .i64 res2_5)] ∧
  K (.tuple #[(.agg #[(.int .i64 res0_5), (.int .i64 res1_5), (.int .i64 res2_5)]), (.bool true), (.int .i64 0)]) H_9)))))

def R15_Roll_Grant.ann : Ann := (.seq .reg (.seq (.seq .reg (.cond (.seq .reg .no) .no)) (.seq .reg (.seq (.blk (.seq .reg (.cond (.seq .reg .no) (.seq .reg (.cond (.seq .reg .no) (.seq .reg (.cond (.seq .reg .no) (.seq .reg (.cond (.seq .reg .no) .no))))))))) (.seq .reg (.seq .reg .no))))))

theorem R15_Roll_Grant.eq (rb : Nat) (ro : Nat) (agent : Int) (boot : Int) (now : Int) (H : Heap) (K : Value → Heap → Prop) : vcFun X Try.f10 R15_Roll_Grant.ann [(.pointer (some ⟨rb, ro, none⟩)), (.int .i64 agent), (.int .i64 boot), (.int .i64 now)] H K = R15_Roll_Grant.code rb ro agent boot now H K := by kernel_rfl

theorem R15_Roll_Grant.call {rb : Nat} {ro : Nat} {agent : Int} {boot : Int} {now : Int} {H : Heap} {K : Value → Heap → Prop} (h : R15_Roll_Grant.code rb ro agent boot now H K) : CallF Try.prog 10 #[(.pointer (some ⟨rb, ro, none⟩)), (.int .i64 agent), (.int .i64 boot), (.int .i64 now)] H K :=
  callF_of_eq (X := X) X_P X_wide X_bodied Try.func10 (R15_Roll_Grant.eq rb ro agent boot now H K) h

def roll_Grant.code (rb : Nat) (ro : Nat) (agent : Int) (boot : Int) (now : Int) (H : Heap) (K : Value → Heap → Prop) : Prop :=
  ∀ (b : Nat) (H_ : Heap), b = H.size → H_ = H.push (.cells #[(.int .i64 0), (.int .i64 0), (.int .i64 0)] 34) →
  ∃ r : Bool, CallQ Try.prog 20 #[(.int .i64 agent), (.int .i64 boot), (.int .i64 now)] H_ (.bool r) ∧
  (((!r)) = true →
  canSet H_ b 0 [(.int .i64 0), (.int .i64 0), (.int .i64 0)] ∧
  ∀ H_1 : Heap, H_1 = setAll H_ b 0 [(.int .i64 0), (.int .i64 0), (.int .i64 0)] →
  ∃ res0 : Int, ∃ res1 : Int, ∃ res2 : Int, cellsAre H_1 b 0 [(.int .i64 res0), (.int .i64 res1), (.int .i64 res2)] ∧
  K (.tuple #[(.agg #[(.int .i64 res0), (.int .i64 res1), (.int .i64 res2)]), (.bool false), (.int .i64 11)]) H_1) ∧
  (((!r)) = false →
  ∃ v : Option Nat, cellAt H_ rb (ro + 1) = some (.map v) ∧
  ∃ m0 : Int, ∃ m1 : Int, ∃ m2 : Int, ∃ there : Bool, ReadRun Try.prog (Instr.lookup 56 (.map v) (.int .i64 agent) true) H_ (.tuple #[(.agg #[(.int .i64 m0), (.int .i64 m1), (.int .i64 m2)]), (.bool there)]) ∧
  ∀ (b1 : Nat) (H_2 : Heap), b1 = H_.size → H_2 = H_.push (.cells #[(.int .i64 0), (.int .i64 0), (.int .i64 0)] 34) →
  canSet H_2 b1 0 [(.int .i64 m0), (.int .i64 m1), (.int .i64 m2)] ∧
  ∀ H_3 : Heap, H_3 = setAll H_2 b1 0 [(.int .i64 m0), (.int .i64 m1), (.int .i64 m2)] →
  ∃ v1 : Int, ((there = true) → cellAt H_3 b1 1 = some (.int .i64 v1)) ∧
  (((there && (decide (v1 = boot)))) = true →
  ∃ c0 : Int, ∃ c1 : Int, ∃ c2 : Int, cellsAre H_3 b1 0 [(.int .i64 c0), (.int .i64 c1), (.int .i64 c2)] ∧
  canSet H_3 b 0 [(.int .i64 c0), (.int .i64 c1), (.int .i64 c2)] ∧
  ∀ H_4 : Heap, H_4 = setAll H_3 b 0 [(.int .i64 c0), (.int .i64 c1), (.int .i64 c2)] →
  ∃ res0_1 : Int, ∃ res1_1 : Int, ∃ res2_1 : Int, cellsAre H_4 b 0 [(.int .i64 res0_1), (.int .i64 res1_1), (.int .i64 res2_1)] ∧
  K (.tuple #[(.agg #[(.int .i64 res0_1), (.int .i64 res1_1), (.int .i64 res2_1)]), (.bool false), (.int .i64 0)]) H_4) ∧
  (((there && (decide (v1 = boot)))) = false →
  ∃ v2 : Int, ((there = true) → cellAt H_3 b1 1 = some (.int .i64 v2)) ∧
  (((there && (decide (boot < v2)))) = true →
  canSet H_3 b 0 [(.int .i64 0), (.int .i64 0), (.int .i64 0)] ∧
  ∀ H_5 : Heap, H_5 = setAll H_3 b 0 [(.int .i64 0), (.int .i64 0), (.int .i64 0)] →
  ∃ res0_2 : Int, ∃ res1_2 : Int, ∃ res2_2 : Int, cellsAre H_5 b 0 [(.int .i64 res0_2), (.int .i64 res1_2), (.int .i64 res2_2)] ∧
  K (.tuple #[(.agg #[(.int .i64 res0_2), (.int .i64 res1_2), (.int .i64 res2_2)]), (.bool false), (.int .i64 22)]) H_5) ∧
  (((there && (decide (boot < v2)))) = false →
  ∃ v3 : Int, ((there = true) → cellAt H_3 b1 0 = some (.int .i64 v3)) ∧
  (((there && (decide (1099511627776 ≤ v3)))) = true →
  canSet H_3 b 0 [(.int .i64 0), (.int .i64 0), (.int .i64 0)] ∧
  ∀ H_6 : Heap, H_6 = setAll H_3 b 0 [(.int .i64 0), (.int .i64 0), (.int .i64 0)] →
  ∃ res0_3 : Int, ∃ res1_3 : Int, ∃ res2_3 : Int, cellsAre H_6 b 0 [(.int .i64 res0_3), (.int .i64 res1_3), (.int .i64 res2_3)] ∧
  K (.tuple #[(.agg #[(.int .i64 res0_3), (.int .i64 res1_3), (.int .i64 res2_3)]), (.bool false), (.int .i64 17)]) H_6) ∧
  (((there && (decide (1099511627776 ≤ v3)))) = false →
  (((!there) = true) → True) ∧
  ∃ v4 : Option Nat, (((!there) = true) → cellAt H_3 rb (ro + 1) = some (.map v4)) ∧
  ∃ n : Int, (((!there) = true) → ReadRun Try.prog (Builtin.len_ #[56] 3 #[(.map v4)]) H_3 (.int .i64 n)) ∧
  (((!there) = true) → True) ∧
  ∃ v5 : Int, (((!there) = true) → cellAt H_3 rb ro = some (.int .i64 v5)) ∧
  ((((!there) && (decide (v5 ≤ n)))) = true →
  canSet H_3 b 0 [(.int .i64 0), (.int .i64 0), (.int .i64 0)] ∧
  ∀ H_7 : Heap, H_7 = setAll H_3 b 0 [(.int .i64 0), (.int .i64 0), (.int .i64 0)] →
  ∃ res0_4 : Int, ∃ res1_4 : Int, ∃ res2_4 : Int, cellsAre H_7 b 0 [(.int .i64 res0_4), (.int .i64 res1_4), (.int .i64 res2_4)] ∧
  K (.tuple #[(.agg #[(.int .i64 res0_4), (.int .i64 res1_4), (.int .i64 res2_4)]), (.bool false), (.int .i64 20)]) H_7) ∧
  ((((!there) && (decide (v5 ≤ n)))) = false →
  ∃ v6 : Int, cellAt H_3 b1 0 = some (.int .i64 v6) ∧
  canSet H_3 b1 0 [(.int .i64 (IntKind.i64.wrap (v6 + 1))), (.int .i64 boot), (.int .i64 now)] ∧
  ∀ H_8 : Heap, H_8 = setAll H_3 b1 0 [(.int .i64 (IntKind.i64.wrap (v6 + 1))), (.int .i64 boot), (.int .i64 now)] →
  ∃ v7 : Option Nat, cellAt H_8 rb (ro + 1) = some (.map v7) ∧
  ∃ c0_1 : Int, ∃ c1_1 : Int, ∃ c2_1 : Int, cellsAre H_8 b1 0 [(.int .i64 c0_1), (.int .i64 c1_1), (.int .i64 c2_1)] ∧
  RunW Try.prog (Instr.mapUpdate 56 (.map v7) (.int .i64 agent) (.agg #[(.int .i64 c0_1), (.int .i64 c1_1), (.int .i64 c2_1)])) H_8 fun u H_9 =>
  ∃ c0_2 : Int, ∃ c1_2 : Int, ∃ c2_2 : Int, cellsAre H_9 b1 0 [(.int .i64 c0_2), (.int .i64 c1_2), (.int .i64 c2_2)] ∧
  canSet H_9 b 0 [(.int .i64 c0_2), (.int .i64 c1_2), (.int .i64 c2_2)] ∧
  ∀ H_10 : Heap, H_10 = setAll H_9 b 0 [(.int .i64 c0_2), (.int .i64 c1_2), (.int .i64 c2_2)] →
  ∃ res0_5 : Int, ∃ res1_5 : Int, ∃ res2_5 : Int, cellsAre H_10 b 0 [(.int .i64 res0_5), (.int .i64 res1_5), (.int .i64 res2_5)] ∧
  K (.tuple #[(.agg #[(.int .i64 res0_5), (.int .i64 res1_5), (.int .i64 res2_5)]), (.bool true), (.int .i64 0)]) H_10)))))

def roll_Grant.ann : Ann := (.seq .reg (.seq (.seq .reg (.cond (.seq .reg .no) .no)) (.seq .reg (.seq (.blk (.seq .reg (.cond (.seq .reg .no) (.seq .reg (.cond (.seq .reg .no) (.seq .reg (.cond (.seq .reg .no) (.seq .reg (.cond (.seq .reg .no) .no))))))))) (.seq .reg (.seq .reg (.seq .reg .no)))))))

theorem roll_Grant.eq (rb : Nat) (ro : Nat) (agent : Int) (boot : Int) (now : Int) (H : Heap) (K : Value → Heap → Prop) : vcFun X Try.f9 roll_Grant.ann [(.pointer (some ⟨rb, ro, none⟩)), (.int .i64 agent), (.int .i64 boot), (.int .i64 now)] H K = roll_Grant.code rb ro agent boot now H K := by kernel_rfl

theorem roll_Grant.call {rb : Nat} {ro : Nat} {agent : Int} {boot : Int} {now : Int} {H : Heap} {K : Value → Heap → Prop} (h : roll_Grant.code rb ro agent boot now H K) : CallF Try.prog 9 #[(.pointer (some ⟨rb, ro, none⟩)), (.int .i64 agent), (.int .i64 boot), (.int .i64 now)] H K :=
  callF_of_eq (X := X) X_P X_wide X_bodied Try.func9 (roll_Grant.eq rb ro agent boot now H K) h

def R15_New.code (most : Int) (H : Heap) (K : Value → Heap → Prop) : Prop :=
  ((((decide (most < 1)) || (decide (64 < most)))) = true →
  K (.tuple #[(.pointer none), (.int .i64 11)]) H) ∧
  ((((decide (most < 1)) || (decide (64 < most)))) = false →
  ∀ (b : Nat) (H_ : Heap), b = H.size → H_ = H.push (.cells #[(.int .i64 most), (.int .i64 0), (.int .i64 0), (.int .i64 0), (.int .i64 0), (.int .i64 0), (.int .i64 0), (.int .i64 0), (.int .i64 0), (.int .i64 0), (.int .i64 0), (.int .i64 0), (.int .i64 0), (.int .i64 0), (.int .i64 0), (.int .i64 0), (.int .i64 0), (.int .i64 0), (.int .i64 0), (.int .i64 0), (.int .i64 0), (.int .i64 0), (.int .i64 0), (.int .i64 0), (.int .i64 0), (.int .i64 0), (.int .i64 0), (.int .i64 0), (.int .i64 0), (.int .i64 0), (.int .i64 0), (.int .i64 0), (.int .i64 0), (.int .i64 0), (.int .i64 0), (.int .i64 0), (.int .i64 0), (.int .i64 0), (.int .i64 0), (.int .i64 0), (.int .i64 0), (.int .i64 0), (.int .i64 0), (.int .i64 0), (.int .i64 0), (.int .i64 0), (.int .i64 0), (.int .i64 0), (.int .i64 0), (.int .i64 0), (.int .i64 0), (.int .i64 0), (.int .i64 0), (.int .i64 0), (.int .i64 0), (.int .i64 0), (.int .i64 0), (.int .i64 0), (.int .i64 0), (.int .i64 0), (.int .i64 0), (.int .i64 0), (.int .i64 0), (.int .i64 0), (.int .i64 0), (.int .i64 0), (.int .i64 0), (.int .i64 0), (.int .i64 0), (.int .i64 0), (.int .i64 0), (.int .i64 0), (.int .i64 0), (.int .i64 0), (.int .i64 0), (.int .i64 0), (.int .i64 0), (.int .i64 0), (.int .i64 0), (.int .i64 0), (.int .i64 0), (.int .i64 0), (.int .i64 0), (.int .i64 0), (.int .i64 0), (.int .i64 0), (.int .i64 0), (.int .i64 0), (.int .i64 0), (.int .i64 0), (.int .i64 0), (.int .i64 0), (.int .i64 0), (.int .i64 0), (.int .i64 0), (.int .i64 0), (.int .i64 0), (.int .i64 0), (.int .i64 0), (.int .i64 0), (.int .i64 0), (.int .i64 0), (.int .i64 0), (.int .i64 0), (.int .i64 0), (.int .i64 0), (.int .i64 0), (.int .i64 0), (.int .i64 0), (.int .i64 0), (.int .i64 0), (.int .i64 0), (.int .i64 0), (.int .i64 0), (.int .i64 0), (.int .i64 0), (.int .i64 0), (.int .i64 0), (.int .i64 0), (.int .i64 0), (.int .i64 0), (.int .i64 0), (.int .i64 0), (.int .i64 0), (.int .i64 0), (.int .i64 0), (.int .i64 0), (.int .i64 0), (.int .i64 0), (.int .i64 0), (.int .i64 0), (.int .i64 0), (.int .i64 0), (.int .i64 0), (.int .i64 0), (.int .i64 0), (.int .i64 0), (.int .i64 0), (.int .i64 0), (.int .i64 0), (.int .i64 0), (.int .i64 0), (.int .i64 0), (.int .i64 0), (.int .i64 0), (.int .i64 0), (.int .i64 0), (.int .i64 0), (.int .i64 0), (.int .i64 0), (.int .i64 0), (.int .i64 0), (.int .i64 0), (.int .i64 0), (.int .i64 0), (.int .i64 0), (.int .i64 0), (.int .i64 0), (.int .i64 0), (.int .i64 0), (.int .i64 0), (.int .i64 0), (.int .i64 0), (.int .i64 0), (.int .i64 0), (.int .i64 0), (.int .i64 0), (.int .i64 0), (.int .i64 0), (.int .i64 0), (.int .i64 0), (.int .i64 0), (.int .i64 0), (.int .i64 0), (.int .i64 0), (.int .i64 0), (.int .i64 0), (.int .i64 0), (.int .i64 0), (.int .i64 0), (.int .i64 0), (.int .i64 0), (.int .i64 0), (.int .i64 0), (.int .i64 0), (.int .i64 0), (.int .i64 0), (.int .i64 0), (.int .i64 0), (.int .i64 0), (.int .i64 0), (.int .i64 0), (.int .i64 0)] 61) →
  K (.tuple #[(.pointer (some ⟨b, 0, none⟩)), (.int .i64 0)]) H_)

def R15_New.ann : Ann := (.seq .reg (.seq (.seq .reg (.cond (.seq .reg .no) .no)) (.seq .reg .no)))

theorem R15_New.eq (most : Int) (H : Heap) (K : Value → Heap → Prop) : vcFun X Try.f8 R15_New.ann [(.int .i64 most)] H K = R15_New.code most H K := by kernel_rfl

theorem R15_New.call {most : Int} {H : Heap} {K : Value → Heap → Prop} (h : R15_New.code most H K) : CallF Try.prog 8 #[(.int .i64 most)] H K :=
  callF_of_eq (X := X) X_P X_wide X_bodied Try.func8 (R15_New.eq most H K) h

def roll_New.code (most : Int) (H : Heap) (K : Value → Heap → Prop) : Prop :=
  ((((decide (most < 1)) || (decide (64 < most)))) = true →
  K (.tuple #[(.pointer none), (.int .i64 11)]) H) ∧
  ((((decide (most < 1)) || (decide (64 < most)))) = false →
  ∀ (b : Nat) (H_ : Heap), b = H.size → H_ = H.push (.map #[] 0) →
  ∀ (b1 : Nat) (H_1 : Heap), b1 = H_.size → H_1 = H_.push (.cells #[(.int .i64 most), (.map (some b))] 58) →
  K (.tuple #[(.pointer (some ⟨b1, 0, none⟩)), (.int .i64 0)]) H_1)

def roll_New.ann : Ann := (.seq .reg (.seq (.seq .reg (.cond (.seq .reg .no) .no)) (.seq .reg .no)))

theorem roll_New.eq (most : Int) (H : Heap) (K : Value → Heap → Prop) : vcFun X Try.f7 roll_New.ann [(.int .i64 most)] H K = roll_New.code most H K := by kernel_rfl

theorem roll_New.call {most : Int} {H : Heap} {K : Value → Heap → Prop} (h : roll_New.code most H K) : CallF Try.prog 7 #[(.int .i64 most)] H K :=
  callF_of_eq (X := X) X_P X_wide X_bodied Try.func7 (roll_New.eq most H K) h

def alive.y1 (b5 : Nat) (H_19 : Heap) (R : Loop) (vs : List Value) (H_20 : Heap) (K_ : Value → Heap → Prop) : Prop :=
  ∃ y : Int, ∃ y0 : Int, ∃ y1 : Int, ∃ y2 : Int, vs = [(.int .i64 y), (.agg #[(.int .i64 y0), (.int .i64 y1), (.int .i64 y2)])] ∧
  H_20[H_19.size + 1]? = some (.loop R) ∧
  ∀ (b6 : Nat) (H_21 : Heap), b6 = H_20.size → H_21 = H_20.push (.cells #[(.int .i64 0), (.int .i64 0), (.int .i64 0)] 34) →
  canSet H_21 b6 0 [(.int .i64 y0), (.int .i64 y1), (.int .i64 y2)] ∧
  ∀ H_22 : Heap, H_22 = setAll H_21 b6 0 [(.int .i64 y0), (.int .i64 y1), (.int .i64 y2)] →
  H_22[H_19.size + 1]? = some (.loop R) ∧
  ∀ H_23 : Heap, H_23 = setLoop H_22 (H_19.size + 1) { R with state := .busy } →
  ∃ v : Int, cellAt H_23 b5 0 = some (.int .i64 v) ∧
  ∃ v1 : Int, cellAt H_23 b6 0 = some (.int .i64 v1) ∧
  canSet H_23 b5 0 [(.int .i64 (IntKind.i64.wrap (v + (IntKind.i64.wrap ((IntKind.i64.wrap (100 * y)) + v1)))))] ∧
  ∀ H_24 : Heap, H_24 = setAll H_23 b5 0 [(.int .i64 (IntKind.i64.wrap (v + (IntKind.i64.wrap ((IntKind.i64.wrap (100 * y)) + v1)))))] →
  H_24[H_19.size + 1]? = some (.loop { R with state := .busy }) ∧ K_ (.bool true) (setLoop H_24 (H_19.size + 1) R)

def alive.r2 (K : Value → Heap → Prop) (H_19 : Heap) (t0 : Bool) (H_31 : Heap) : Prop :=
  H_31[H_19.size]? = some (.deferred (some [])) ∧
  K (.bool t0) (H_31.setIfInBounds H_19.size (.deferred none))

def alive.code  (H : Heap) (K : Value → Heap → Prop) : Prop :=
  CallF Try.prog 7 #[(.int .i64 1)] H fun u H_ => ∃ r : Option Addr, ∃ r1 : Int, u = (.tuple #[(.pointer r), (.int .i64 r1)]) ∧
  ((((!decide (r1 = 0)) || r.isNone)) = true →
  K (.bool false) H_) ∧
  ((((!decide (r1 = 0)) || r.isNone)) = false →
  CallF Try.prog 9 #[(.pointer r), (.int .i64 3), (.int .i64 1), (.int .i64 10)] H_ fun u1 H_1 => ∃ r0 : Int, ∃ r1_1 : Int, ∃ r2 : Int, ∃ r3 : Bool, ∃ r4 : Int, u1 = (.tuple #[(.agg #[(.int .i64 r0), (.int .i64 r1_1), (.int .i64 r2)]), (.bool r3), (.int .i64 r4)]) ∧
  ∀ (b : Nat) (H_2 : Heap), b = H_1.size → H_2 = H_1.push (.cells #[(.int .i64 0), (.int .i64 0), (.int .i64 0)] 34) →
  canSet H_2 b 0 [(.int .i64 r0), (.int .i64 r1_1), (.int .i64 r2)] ∧
  ∀ H_3 : Heap, H_3 = setAll H_2 b 0 [(.int .i64 r0), (.int .i64 r1_1), (.int .i64 r2)] →
  CallF Try.prog 9 #[(.pointer r), (.int .i64 3), (.int .i64 1), (.int .i64 20)] H_3 fun u2 H_4 => ∃ r0_1 : Int, ∃ r1_2 : Int, ∃ r2_1 : Int, ∃ r5 : Bool, ∃ r6 : Int, u2 = (.tuple #[(.agg #[(.int .i64 r0_1), (.int .i64 r1_2), (.int .i64 r2_1)]), (.bool r5), (.int .i64 r6)]) ∧
  ∀ (b1 : Nat) (H_5 : Heap), b1 = H_4.size → H_5 = H_4.push (.cells #[(.int .i64 0), (.int .i64 0), (.int .i64 0)] 34) →
  canSet H_5 b1 0 [(.int .i64 r0_1), (.int .i64 r1_2), (.int .i64 r2_1)] ∧
  ∀ H_6 : Heap, H_6 = setAll H_5 b1 0 [(.int .i64 r0_1), (.int .i64 r1_2), (.int .i64 r2_1)] →
  CallF Try.prog 19 #[(.pointer r)] H_6 fun u3 H_7 => ∃ r7 : Option Addr, u3 = (.pointer r7) ∧
  CallF Try.prog 9 #[(.pointer r), (.int .i64 3), (.int .i64 2), (.int .i64 30)] H_7 fun u4 H_8 => ∃ r0_2 : Int, ∃ r1_3 : Int, ∃ r2_2 : Int, ∃ r8 : Bool, ∃ r9 : Int, u4 = (.tuple #[(.agg #[(.int .i64 r0_2), (.int .i64 r1_3), (.int .i64 r2_2)]), (.bool r8), (.int .i64 r9)]) ∧
  ∀ (b2 : Nat) (H_9 : Heap), b2 = H_8.size → H_9 = H_8.push (.cells #[(.int .i64 0), (.int .i64 0), (.int .i64 0)] 34) →
  canSet H_9 b2 0 [(.int .i64 r0_2), (.int .i64 r1_3), (.int .i64 r2_2)] ∧
  ∀ H_10 : Heap, H_10 = setAll H_9 b2 0 [(.int .i64 r0_2), (.int .i64 r1_3), (.int .i64 r2_2)] →
  CallF Try.prog 9 #[(.pointer r), (.int .i64 3), (.int .i64 1), (.int .i64 40)] H_10 fun u5 H_11 => ∃ r0_3 : Int, ∃ r1_4 : Int, ∃ r2_3 : Int, ∃ r10 : Bool, ∃ r11 : Int, u5 = (.tuple #[(.agg #[(.int .i64 r0_3), (.int .i64 r1_4), (.int .i64 r2_3)]), (.bool r10), (.int .i64 r11)]) ∧
  ∀ (b3 : Nat) (H_12 : Heap), b3 = H_11.size → H_12 = H_11.push (.cells #[(.int .i64 0), (.int .i64 0), (.int .i64 0)] 34) →
  canSet H_12 b3 0 [(.int .i64 r0_3), (.int .i64 r1_4), (.int .i64 r2_3)] ∧
  ∀ H_13 : Heap, H_13 = setAll H_12 b3 0 [(.int .i64 r0_3), (.int .i64 r1_4), (.int .i64 r2_3)] →
  CallF Try.prog 9 #[(.pointer r), (.int .i64 4), (.int .i64 1), (.int .i64 40)] H_13 fun u6 H_14 => ∃ r0_4 : Int, ∃ r1_5 : Int, ∃ r2_4 : Int, ∃ r12 : Bool, ∃ r13 : Int, u6 = (.tuple #[(.agg #[(.int .i64 r0_4), (.int .i64 r1_5), (.int .i64 r2_4)]), (.bool r12), (.int .i64 r13)]) ∧
  ∀ (b4 : Nat) (H_15 : Heap), b4 = H_14.size → H_15 = H_14.push (.cells #[(.int .i64 0), (.int .i64 0), (.int .i64 0)] 34) →
  canSet H_15 b4 0 [(.int .i64 r0_4), (.int .i64 r1_5), (.int .i64 r2_4)] ∧
  ∀ H_16 : Heap, H_16 = setAll H_15 b4 0 [(.int .i64 r0_4), (.int .i64 r1_5), (.int .i64 r2_4)] →
  ((r7.isNone) = true →
  K (.bool false) H_16) ∧
  ((r7.isNone) = false →
  ∀ (b5 : Nat) (H_17 : Heap), b5 = H_16.size → H_17 = H_16.push (.cells #[(.int .i64 0)] 2) →
  canSet H_17 b5 0 [(.int .i64 0)] ∧
  ∀ H_18 : Heap, H_18 = setAll H_17 b5 0 [(.int .i64 0)] →
  CallF Try.prog 18 #[(.pointer r)] H_18 fun u7 H_19 => ∃ rf : FuncId, ∃ rl : List Value, u7 = (.func (.func rf) #[] ⟨rl⟩) ∧
  memN rf X.calls = true ∧
  ∀ R : Loop, R.state = .ready → R.pending = none →
  (∀ (vs : List Value) (H_20 : Heap) (K_ : Value → Heap → Prop), alive.y1 b5 H_19 R vs H_20 K_ → YieldF Try.prog (H_19.size + 1) vs H_20 K_) →
  CallF Try.prog rf ⟨(.func (.yield (H_19.size + 1)) #[] #[]) :: rl⟩ ((H_19.push (.deferred (some []))).push (.loop R)) fun u8 H_25 => ∃ (st : LoopState) (pd : Option Code), st ≠ .busy ∧ H_25[H_19.size + 1]? = some (.loop { R with state := st, pending := pd }) ∧
  ∀ H_26 : Heap, H_26 = setLoop H_25 (H_19.size + 1) { R with state := .exhausted, pending := pd } →
  pd = none ∧
  CallF Try.prog 15 #[(.pointer r7), (.int .i64 3)] H_26 fun u9 H_27 => ∃ r0_5 : Int, ∃ r1_6 : Int, ∃ r2_5 : Int, ∃ r14 : Bool, u9 = (.tuple #[(.agg #[(.int .i64 r0_5), (.int .i64 r1_6), (.int .i64 r2_5)]), (.bool r14)]) ∧
  ∀ (b7 : Nat) (H_28 : Heap), b7 = H_27.size → H_28 = H_27.push (.cells #[(.int .i64 0), (.int .i64 0), (.int .i64 0)] 34) →
  canSet H_28 b7 0 [(.int .i64 r0_5), (.int .i64 r1_6), (.int .i64 r2_5)] ∧
  ∀ H_29 : Heap, H_29 = setAll H_28 b7 0 [(.int .i64 r0_5), (.int .i64 r1_6), (.int .i64 r2_5)] →
  CallF Try.prog 12 #[(.pointer r7), (.int .i64 3), (.agg #[(.int .i64 1), (.int .i64 1), (.int .i64 0)])] H_29 fun u10 H_30 => ∃ r15 : Int, u10 = (.int .i64 r15) ∧
  ∀ Jn : Bool → Heap → Prop, (∀ (t0 : Bool), ∀ H_31 : Heap, alive.r2 K H_19 t0 H_31 → Jn t0 H_31) →
  ∃ c0 : Int, ∃ c1 : Int, ∃ c2 : Int, ((((((decide (r4 = 0)) && r3) && (decide (r6 = 0))) && (!r5)) = true) → cellsAre H_30 b 0 [(.int .i64 c0), (.int .i64 c1), (.int .i64 c2)]) ∧
  ∃ c0_1 : Int, ∃ c1_1 : Int, ∃ c2_1 : Int, ((((((decide (r4 = 0)) && r3) && (decide (r6 = 0))) && (!r5)) = true) → cellsAre H_30 b1 0 [(.int .i64 c0_1), (.int .i64 c1_1), (.int .i64 c2_1)]) ∧
  ∃ eq : Bool, ((((((decide (r4 = 0)) && r3) && (decide (r6 = 0))) && (!r5)) = true) → EqRun Try.prog .eql 34 (.agg #[(.int .i64 c0), (.int .i64 c1), (.int .i64 c2)]) (.agg #[(.int .i64 c0_1), (.int .i64 c1_1), (.int .i64 c2_1)]) eq) ∧
  ∃ c0_2 : Int, ∃ c1_2 : Int, ∃ c2_2 : Int, (((((((decide (r4 = 0)) && r3) && (decide (r6 = 0))) && (!r5)) && eq) = true) → cellsAre H_30 b 0 [(.int .i64 c0_2), (.int .i64 c1_2), (.int .i64 c2_2)]) ∧
  ∃ eq1 : Bool, (((((((decide (r4 = 0)) && r3) && (decide (r6 = 0))) && (!r5)) && eq) = true) → EqRun Try.prog .eql 34 (.agg #[(.int .i64 c0_2), (.int .i64 c1_2), (.int .i64 c2_2)]) (.agg #[(.int .i64 1), (.int .i64 1), (.int .i64 10)]) eq1) ∧
  ∃ c0_3 : Int, ∃ c1_3 : Int, ∃ c2_3 : Int, ((((((((((decide (r4 = 0)) && r3) && (decide (r6 = 0))) && (!r5)) && eq) && eq1) && r8) && (decide (r9 = 0))) = true) → cellsAre H_30 b2 0 [(.int .i64 c0_3), (.int .i64 c1_3), (.int .i64 c2_3)]) ∧
  ∃ eq2 : Bool, ((((((((((decide (r4 = 0)) && r3) && (decide (r6 = 0))) && (!r5)) && eq) && eq1) && r8) && (decide (r9 = 0))) = true) → EqRun Try.prog .eql 34 (.agg #[(.int .i64 c0_3), (.int .i64 c1_3), (.int .i64 c2_3)]) (.agg #[(.int .i64 2), (.int .i64 2), (.int .i64 30)]) eq2) ∧
  ∃ v2 : Int, (((((((((((((decide (r4 = 0)) && r3) && (decide (r6 = 0))) && (!r5)) && eq) && eq1) && r8) && (decide (r9 = 0))) && eq2) && (decide (r11 = 22))) && (decide (r13 = 20))) = true) → cellAt H_30 b5 0 = some (.int .i64 v2)) ∧
  ∃ c0_4 : Int, ∃ c1_4 : Int, ∃ c2_4 : Int, (((((((((((((((decide (r4 = 0)) && r3) && (decide (r6 = 0))) && (!r5)) && eq) && eq1) && r8) && (decide (r9 = 0))) && eq2) && (decide (r11 = 22))) && (decide (r13 = 20))) && (decide (v2 = 302))) && r14) = true) → cellsAre H_30 b7 0 [(.int .i64 c0_4), (.int .i64 c1_4), (.int .i64 c2_4)]) ∧
  ∃ c0_5 : Int, ∃ c1_5 : Int, ∃ c2_5 : Int, (((((((((((((((decide (r4 = 0)) && r3) && (decide (r6 = 0))) && (!r5)) && eq) && eq1) && r8) && (decide (r9 = 0))) && eq2) && (decide (r11 = 22))) && (decide (r13 = 20))) && (decide (v2 = 302))) && r14) = true) → cellsAre H_30 b 0 [(.int .i64 c0_5), (.int .i64 c1_5), (.int .i64 c2_5)]) ∧
  ∃ eq3 : Bool, (((((((((((((((decide (r4 = 0)) && r3) && (decide (r6 = 0))) && (!r5)) && eq) && eq1) && r8) && (decide (r9 = 0))) && eq2) && (decide (r11 = 22))) && (decide (r13 = 20))) && (decide (v2 = 302))) && r14) = true) → EqRun Try.prog .eql 34 (.agg #[(.int .i64 c0_4), (.int .i64 c1_4), (.int .i64 c2_4)]) (.agg #[(.int .i64 c0_5), (.int .i64 c1_5), (.int .i64 c2_5)]) eq3) ∧
  (((((((((((((((((decide (r4 = 0)) && r3) && (decide (r6 = 0))) && (!r5)) && eq) && eq1) && r8) && (decide (r9 = 0))) && eq2) && (decide (r11 = 22))) && (decide (r13 = 20))) && (decide (v2 = 302))) && r14) && eq3) && (decide (r15 = 18))) = true) →
  CallF Try.prog 17 #[(.pointer r), (.int .i64 3), (.int .i64 2)] H_30 fun u11 H_32 => ∃ r16 : Bool, u11 = (.bool r16) ∧
  ((r16 = true) →
  CallF Try.prog 17 #[(.pointer r), (.int .i64 3), (.int .i64 1)] H_32 fun u12 H_33 => ∃ r17 : Bool, u12 = (.bool r17) ∧
  Jn (!r17) H_33) ∧
  (¬ (r16 = true) →
  Jn false H_32)) ∧
  (¬ ((((((((((((((((decide (r4 = 0)) && r3) && (decide (r6 = 0))) && (!r5)) && eq) && eq1) && r8) && (decide (r9 = 0))) && eq2) && (decide (r11 = 22))) && (decide (r13 = 20))) && (decide (v2 = 302))) && r14) && eq3) && (decide (r15 = 18))) = true) →
  ((false = true) →
  CallF Try.prog 17 #[(.pointer r), (.int .i64 3), (.int .i64 1)] H_30 fun u13 H_34 => ∃ r18 : Bool, u13 = (.bool r18) ∧
  Jn (!r18) H_34) ∧
  (¬ (false = true) →
  Jn false H_30))))

def alive.ann : Ann := (.seq .reg (.seq .reg (.seq (.seq .reg (.cond (.seq .reg .no) .no)) (.seq .reg (.seq .reg (.seq .reg (.seq .reg (.seq .reg (.seq .reg (.seq (.seq .reg (.cond (.seq .reg .no) .no)) (.seq .reg (.seq (.seq .reg (.blk (.rng [.one (.int .i64), .agg [.int .i64, .int .i64, .int .i64]] [none] (.seq .reg .reg) (.blk .reg)))) (.seq .reg (.seq .reg (.seq (.regJ [(0, .one (.bool))]) .no)))))))))))))))

theorem alive.eq  (H : Heap) (K : Value → Heap → Prop) : vcFun X Try.f6 alive.ann [] H K = alive.code  H K := by kernel_rfl

theorem alive.call  {H : Heap} {K : Value → Heap → Prop} (h : alive.code  H K) : CallF Try.prog 6 #[] H K :=
  callF_of_eq (X := X) X_P X_wide X_bodied Try.func6 (alive.eq  H K) h

def RollCopies.y1 (b : Nat) (b7 : Nat) (H_11 : Heap) (R : Loop) (vs : List Value) (H_12 : Heap) (K_ : Value → Heap → Prop) : Prop :=
  ∃ y : Int, ∃ y0 : Int, ∃ y1 : Int, ∃ y2 : Int, vs = [(.int .i64 y), (.agg #[(.int .i64 y0), (.int .i64 y1), (.int .i64 y2)])] ∧
  H_12[H_11.size + 1]? = some (.loop R) ∧
  ∀ (b8 : Nat) (H_13 : Heap), b8 = H_12.size → H_13 = H_12.push (.cells #[(.int .i64 0), (.int .i64 0), (.int .i64 0)] 34) →
  canSet H_13 b8 0 [(.int .i64 y0), (.int .i64 y1), (.int .i64 y2)] ∧
  ∀ H_14 : Heap, H_14 = setAll H_13 b8 0 [(.int .i64 y0), (.int .i64 y1), (.int .i64 y2)] →
  H_14[H_11.size + 1]? = some (.loop R) ∧
  ∀ H_15 : Heap, H_15 = setLoop H_14 (H_11.size + 1) { R with state := .busy } →
  ∃ v7 : Option Addr, cellAt H_15 b 0 = some (.pointer v7) ∧
  ∃ c0 : Int, ∃ c1 : Int, ∃ c2 : Int, cellsAre H_15 b8 0 [(.int .i64 c0), (.int .i64 c1), (.int .i64 c2)] ∧
  CallF Try.prog 12 #[(.pointer v7), (.int .i64 y), (.agg #[(.int .i64 c0), (.int .i64 c1), (.int .i64 c2)])] H_15 fun u7 H_16 => ∃ r11 : Int, u7 = (.int .i64 r11) ∧
  ∃ v8 : Bool, (((decide (r11 = 0)) = true) → cellAt H_16 b7 0 = some (.bool v8)) ∧
  canSet H_16 b7 0 [(.bool ((decide (r11 = 0)) && v8))] ∧
  ∀ H_17 : Heap, H_17 = setAll H_16 b7 0 [(.bool ((decide (r11 = 0)) && v8))] →
  H_17[H_11.size + 1]? = some (.loop { R with state := .busy }) ∧ K_ (.bool true) (setLoop H_17 (H_11.size + 1) R)

def RollCopies.r2 (K : Value → Heap → Prop) (H_11 : Heap) (t6 : Bool) (H_23 : Heap) : Prop :=
  H_23[H_11.size]? = some (.deferred (some [])) ∧
  K (.bool t6) (H_23.setIfInBounds H_11.size (.deferred none))

def RollCopies.l3 (morea : Option Addr) (moren : Nat) (K : Value → Heap → Prop) (r1 : Option Addr) (r2 : Int) (r3 : Option Addr) (b : Nat) (H_11 : Heap) (r12 : Option Addr) (Inv1 : Int → Heap → Prop) (mu1 : Int → Heap → Nat) (i1 : Int) (H_21 : Heap) : Prop :=
  (((decide (i1 < (moren : Int)))) = true →
  ((0 : Int) ≤ i1 ∧ i1 < (moren : Int)) ∧ ∃ b9 o6 : Nat, (morea = some ⟨b9, o6, none⟩) ∧
  ∃ v10 : Int, cellAt H_21 b9 (o6 + i1.toNat * 5 + 1) = some (.int .i64 v10) ∧
  ((0 : Int) ≤ i1 ∧ i1 < (moren : Int)) ∧ ∃ b10 o7 : Nat, (morea = some ⟨b10, o7, none⟩) ∧
  ∃ v11 : Int, cellAt H_21 b10 (o7 + i1.toNat * 5 + 2) = some (.int .i64 v11) ∧
  ((0 : Int) ≤ i1 ∧ i1 < (moren : Int)) ∧ ∃ b11 o8 : Nat, (morea = some ⟨b11, o8, none⟩) ∧
  ∃ v12 : Int, cellAt H_21 b11 (o8 + i1.toNat * 5 + 3) = some (.int .i64 v12) ∧
  CallF Try.prog 9 #[(.pointer r1), (.int .i64 v10), (.int .i64 v11), (.int .i64 v12)] H_21 fun u10 H_22 => ∃ r0_2 : Int, ∃ r1_3 : Int, ∃ r2_3 : Int, ∃ r13 : Bool, ∃ r14 : Int, u10 = (.tuple #[(.agg #[(.int .i64 r0_2), (.int .i64 r1_3), (.int .i64 r2_3)]), (.bool r13), (.int .i64 r14)]) ∧
  Inv1 (IntKind.i64.wrap (i1 + 1)) H_22 ∧ mu1 (IntKind.i64.wrap (i1 + 1)) H_22 < mu1 i1 H_21) ∧
  (((decide (i1 < (moren : Int)))) = false →
  ∀ Jn : Bool → Heap → Prop, (∀ (t6 : Bool), ∀ H_23 : Heap, RollCopies.r2 K H_11 t6 H_23 → Jn t6 H_23) →
  CallF Try.prog 14 #[(.pointer r12), (.pointer r3)] H_21 fun u11 H_24 => ∃ r15 : Bool, u11 = (.bool r15) ∧
  ∃ v13 : Option Addr, ((r15 = true) → cellAt H_24 b 0 = some (.pointer v13)) ∧
  ((r15 = true) →
  CallF Try.prog 14 #[(.pointer v13), (.pointer r3)] H_24 fun u12 H_25 => ∃ r16 : Bool, u12 = (.bool r16) ∧
  Jn r16 H_25) ∧
  (¬ (r15 = true) →
  Jn false H_24))

def RollCopies.l4 (callsa : Option Addr) (callsn : Nat) (morea : Option Addr) (moren : Nat) (K : Value → Heap → Prop) (r1 : Option Addr) (r2 : Int) (r3 : Option Addr) (b : Nat) (Inv : Int → Heap → Prop) (mu : Int → Heap → Nat) (i : Int) (H_6 : Heap) : Prop :=
  (((decide (i < (callsn : Int)))) = true →
  ((0 : Int) ≤ i ∧ i < (callsn : Int)) ∧ ∃ b1 o : Nat, (callsa = some ⟨b1, o, none⟩) ∧
  ∃ v1 : Int, cellAt H_6 b1 (o + i.toNat * 5 + 1) = some (.int .i64 v1) ∧
  ((0 : Int) ≤ i ∧ i < (callsn : Int)) ∧ ∃ b2 o1 : Nat, (callsa = some ⟨b2, o1, none⟩) ∧
  ∃ v2 : Int, cellAt H_6 b2 (o1 + i.toNat * 5 + 2) = some (.int .i64 v2) ∧
  ((0 : Int) ≤ i ∧ i < (callsn : Int)) ∧ ∃ b3 o2 : Nat, (callsa = some ⟨b3, o2, none⟩) ∧
  ∃ v3 : Int, cellAt H_6 b3 (o2 + i.toNat * 5 + 3) = some (.int .i64 v3) ∧
  CallF Try.prog 9 #[(.pointer r1), (.int .i64 v1), (.int .i64 v2), (.int .i64 v3)] H_6 fun u4 H_7 => ∃ r0 : Int, ∃ r1_1 : Int, ∃ r2_1 : Int, ∃ r7 : Bool, ∃ r8 : Int, u4 = (.tuple #[(.agg #[(.int .i64 r0), (.int .i64 r1_1), (.int .i64 r2_1)]), (.bool r7), (.int .i64 r8)]) ∧
  ((0 : Int) ≤ i ∧ i < (callsn : Int)) ∧ ∃ b4 o3 : Nat, (callsa = some ⟨b4, o3, none⟩) ∧
  ∃ v4 : Int, cellAt H_7 b4 (o3 + i.toNat * 5 + 1) = some (.int .i64 v4) ∧
  ((0 : Int) ≤ i ∧ i < (callsn : Int)) ∧ ∃ b5 o4 : Nat, (callsa = some ⟨b5, o4, none⟩) ∧
  ∃ v5 : Int, cellAt H_7 b5 (o4 + i.toNat * 5 + 2) = some (.int .i64 v5) ∧
  ((0 : Int) ≤ i ∧ i < (callsn : Int)) ∧ ∃ b6 o5 : Nat, (callsa = some ⟨b6, o5, none⟩) ∧
  ∃ v6 : Int, cellAt H_7 b6 (o5 + i.toNat * 5 + 3) = some (.int .i64 v6) ∧
  CallF Try.prog 10 #[(.pointer r3), (.int .i64 v4), (.int .i64 v5), (.int .i64 v6)] H_7 fun u5 H_8 => ∃ r0_1 : Int, ∃ r1_2 : Int, ∃ r2_2 : Int, ∃ r9 : Bool, ∃ r10 : Int, u5 = (.tuple #[(.agg #[(.int .i64 r0_1), (.int .i64 r1_2), (.int .i64 r2_2)]), (.bool r9), (.int .i64 r10)]) ∧
  Inv (IntKind.i64.wrap (i + 1)) H_8 ∧ mu (IntKind.i64.wrap (i + 1)) H_8 < mu i H_6) ∧
  (((decide (i < (callsn : Int)))) = false →
  ∀ (b7 : Nat) (H_9 : Heap), b7 = H_6.size → H_9 = H_6.push (.cells #[(.bool false)] 4) →
  canSet H_9 b7 0 [(.bool true)] ∧
  ∀ H_10 : Heap, H_10 = setAll H_9 b7 0 [(.bool true)] →
  CallF Try.prog 18 #[(.pointer r1)] H_10 fun u6 H_11 => ∃ rf : FuncId, ∃ rl : List Value, u6 = (.func (.func rf) #[] ⟨rl⟩) ∧
  memN rf X.calls = true ∧
  ∀ R : Loop, R.state = .ready → R.pending = none →
  (∀ (vs : List Value) (H_12 : Heap) (K_ : Value → Heap → Prop), RollCopies.y1 b b7 H_11 R vs H_12 K_ → YieldF Try.prog (H_11.size + 1) vs H_12 K_) →
  CallF Try.prog rf ⟨(.func (.yield (H_11.size + 1)) #[] #[]) :: rl⟩ ((H_11.push (.deferred (some []))).push (.loop R)) fun u8 H_18 => ∃ (st : LoopState) (pd : Option Code), st ≠ .busy ∧ H_18[H_11.size + 1]? = some (.loop { R with state := st, pending := pd }) ∧
  ∀ H_19 : Heap, H_19 = setLoop H_18 (H_11.size + 1) { R with state := .exhausted, pending := pd } →
  pd = none ∧
  CallF Try.prog 19 #[(.pointer r1)] H_19 fun u9 H_20 => ∃ r12 : Option Addr, u9 = (.pointer r12) ∧
  ∃ v9 : Bool, cellAt H_20 b7 0 = some (.bool v9) ∧
  ((((!v9) || r12.isNone)) = true →
  H_20[H_11.size]? = some (.deferred (some [])) ∧
  K (.bool false) (H_20.setIfInBounds H_11.size (.deferred none))) ∧
  ((((!v9) || r12.isNone)) = false →
  ∃ (Inv1 : Int → Heap → Prop) (mu1 : Int → Heap → Nat), Inv1 0 H_20 ∧
  ∀ (i1 : Int), ∀ H_21 : Heap, Inv1 i1 H_21 → RollCopies.l3 morea moren K r1 r2 r3 b H_11 r12 Inv1 mu1 i1 H_21))

def RollCopies.code (most : Int) (callsa : Option Addr) (callsn : Nat) (callsc : Nat) (morea : Option Addr) (moren : Nat) (morec : Nat) (H : Heap) (K : Value → Heap → Prop) : Prop :=
  CallF Try.prog 6 #[] H fun u H_ => ∃ r : Bool, u = (.bool r) ∧
  (((!r)) = true →
  K (.bool false) H_) ∧
  (((!r)) = false →
  ((((decide (100 < (callsn : Int))) || (decide (100 < (moren : Int))))) = true →
  K (.bool true) H_) ∧
  ((((decide (100 < (callsn : Int))) || (decide (100 < (moren : Int))))) = false →
  CallF Try.prog 7 #[(.int .i64 most)] H_ fun u1 H_1 => ∃ r1 : Option Addr, ∃ r2 : Int, u1 = (.tuple #[(.pointer r1), (.int .i64 r2)]) ∧
  CallF Try.prog 8 #[(.int .i64 most)] H_1 fun u2 H_2 => ∃ r3 : Option Addr, ∃ r4 : Int, u2 = (.tuple #[(.pointer r3), (.int .i64 r4)]) ∧
  CallF Try.prog 7 #[(.int .i64 most)] H_2 fun u3 H_3 => ∃ r5 : Option Addr, ∃ r6 : Int, u3 = (.tuple #[(.pointer r5), (.int .i64 r6)]) ∧
  ∀ (b : Nat) (H_4 : Heap), b = H_3.size → H_4 = H_3.push (.cells #[(.pointer none)] 24) →
  canSet H_4 b 0 [(.pointer r5)] ∧
  ∀ H_5 : Heap, H_5 = setAll H_4 b 0 [(.pointer r5)] →
  ∃ v : Option Addr, (((((!decide (r2 = 0)) || r1.isNone) || r3.isNone) = false) → cellAt H_5 b 0 = some (.pointer v)) ∧
  ((((((!decide (r2 = 0)) || r1.isNone) || r3.isNone) || v.isNone)) = true →
  K (.bool r1.isNone) H_5) ∧
  ((((((!decide (r2 = 0)) || r1.isNone) || r3.isNone) || v.isNone)) = false →
  ∃ (Inv : Int → Heap → Prop) (mu : Int → Heap → Nat), Inv 0 H_5 ∧
  ∀ (i : Int), ∀ H_6 : Heap, Inv i H_6 → RollCopies.l4 callsa callsn morea moren K r1 r2 r3 b Inv mu i H_6)))

def RollCopies.ann : Ann := (.seq .reg (.seq (.seq .reg (.cond (.seq .reg .no) .no)) (.seq (.seq .reg (.cond (.seq .reg .no) .no)) (.seq .reg (.seq .reg (.seq .reg (.seq (.seq .reg (.cond (.seq .reg .no) .no)) (.seq (.seq .reg (.blk (.loop [(13, .one (.int .i64))] (.seq (.seq .reg (.cond .no .no)) (.seq (.blk (.seq .reg .reg)) .reg))))) (.seq .reg (.seq (.seq .reg (.blk (.rng [.one (.int .i64), .agg [.int .i64, .int .i64, .int .i64]] [none] (.seq .reg .reg) (.blk .reg)))) (.seq .reg (.seq (.seq .reg (.cond (.seq .reg .no) .no)) (.seq (.seq .reg (.blk (.loop [(18, .one (.int .i64))] (.seq (.seq .reg (.cond .no .no)) (.seq (.blk .reg) .reg))))) (.seq (.regJ [(6, .one (.bool))]) .no))))))))))))))

theorem RollCopies.eq (most : Int) (callsa : Option Addr) (callsn : Nat) (callsc : Nat) (morea : Option Addr) (moren : Nat) (morec : Nat) (H : Heap) (K : Value → Heap → Prop) : vcFun X Try.f5 RollCopies.ann [(.int .i64 most), (.slice callsa callsn callsc), (.slice morea moren morec)] H K = RollCopies.code most callsa callsn callsc morea moren morec H K := by kernel_rfl

theorem RollCopies.call {most : Int} {callsa : Option Addr} {callsn : Nat} {callsc : Nat} {morea : Option Addr} {moren : Nat} {morec : Nat} {H : Heap} {K : Value → Heap → Prop} (h : RollCopies.code most callsa callsn callsc morea moren morec H K) : CallF Try.prog 5 #[(.int .i64 most), (.slice callsa callsn callsc), (.slice morea moren morec)] H K :=
  callF_of_eq (X := X) X_P X_wide X_bodied Try.func5 (RollCopies.eq most callsa callsn callsc morea moren morec H K) h

def RollRises.r1 (Inv : Bool → Int → Heap → Prop) (mu : Bool → Int → Heap → Nat) (t4 : Bool) (i : Int) (H_4 : Heap) (t4_1 : Bool) (H_5 : Heap) : Prop :=
  Inv t4_1 (IntKind.i64.wrap (i + 1)) H_5 ∧ mu t4_1 (IntKind.i64.wrap (i + 1)) H_5 < mu t4 i H_4

def RollRises.y2 (b7 : Nat) (H_21 : Heap) (R : Loop) (vs : List Value) (H_22 : Heap) (K_ : Value → Heap → Prop) : Prop :=
  ∃ y : Int, ∃ y0 : Int, ∃ y1 : Int, ∃ y2 : Int, vs = [(.int .i64 y), (.agg #[(.int .i64 y0), (.int .i64 y1), (.int .i64 y2)])] ∧
  H_22[H_21.size + 1]? = some (.loop R) ∧
  H_22[H_21.size + 1]? = some (.loop R) ∧
  ∀ H_23 : Heap, H_23 = setLoop H_22 (H_21.size + 1) { R with state := .busy } →
  ∃ v26 : Int, cellAt H_23 b7 0 = some (.int .i64 v26) ∧
  canSet H_23 b7 0 [(.int .i64 (IntKind.i64.wrap (v26 + 1)))] ∧
  ∀ H_24 : Heap, H_24 = setAll H_23 b7 0 [(.int .i64 (IntKind.i64.wrap (v26 + 1)))] →
  H_24[H_21.size + 1]? = some (.loop { R with state := .busy }) ∧ K_ (.bool true) (setLoop H_24 (H_21.size + 1) R)

def RollRises.l3 (most : Int) (callsa : Option Addr) (callsn : Nat) (K : Value → Heap → Prop) (r1 : Option Addr) (b : Nat) (b1 : Nat) (Inv : Bool → Int → Heap → Prop) (mu : Bool → Int → Heap → Nat) (t4 : Bool) (i : Int) (H_4 : Heap) : Prop :=
  (((decide (i < (callsn : Int)))) = true →
  ∀ Jn : Bool → Heap → Prop, (∀ (t4_1 : Bool), ∀ H_5 : Heap, RollRises.r1 Inv mu t4 i H_4 t4_1 H_5 → Jn t4_1 H_5) →
  ((0 : Int) ≤ i ∧ i < (callsn : Int)) ∧ ∃ b2 o : Nat, (callsa = some ⟨b2, o, none⟩) ∧
  ∃ c0 : Int, ∃ c1 : Int, ∃ c2 : Int, ∃ c3 : Int, ∃ c4 : Int, cellsAre H_4 b2 (o + i.toNat * 5) [(.int .i64 c0), (.int .i64 c1), (.int .i64 c2), (.int .i64 c3), (.int .i64 c4)] ∧
  ∀ (b3 : Nat) (H_6 : Heap), b3 = H_4.size → H_6 = H_4.push (.cells #[(.int .i64 0), (.int .i64 0), (.int .i64 0), (.int .i64 0), (.int .i64 0)] 32) →
  canSet H_6 b3 0 [(.int .i64 c0), (.int .i64 c1), (.int .i64 c2), (.int .i64 c3), (.int .i64 c4)] ∧
  ∀ H_7 : Heap, H_7 = setAll H_6 b3 0 [(.int .i64 c0), (.int .i64 c1), (.int .i64 c2), (.int .i64 c3), (.int .i64 c4)] →
  ∃ v : Int, cellAt H_7 b3 0 = some (.int .i64 v) ∧
  (((!decide (v = 0))) = true →
  Jn t4 H_7) ∧
  (((!decide (v = 0))) = false →
  ∃ v1 : Int, cellAt H_7 b3 1 = some (.int .i64 v1) ∧
  CallF Try.prog 15 #[(.pointer r1), (.int .i64 v1)] H_7 fun u2 H_8 => ∃ r0 : Int, ∃ r1_1 : Int, ∃ r2_1 : Int, ∃ r3 : Bool, u2 = (.tuple #[(.agg #[(.int .i64 r0), (.int .i64 r1_1), (.int .i64 r2_1)]), (.bool r3)]) ∧
  ∀ (b4 : Nat) (H_9 : Heap), b4 = H_8.size → H_9 = H_8.push (.cells #[(.int .i64 0), (.int .i64 0), (.int .i64 0)] 34) →
  canSet H_9 b4 0 [(.int .i64 r0), (.int .i64 r1_1), (.int .i64 r2_1)] ∧
  ∀ H_10 : Heap, H_10 = setAll H_9 b4 0 [(.int .i64 r0), (.int .i64 r1_1), (.int .i64 r2_1)] →
  ∃ v2 : Int, cellAt H_10 b3 1 = some (.int .i64 v2) ∧
  ∃ v3 : Int, cellAt H_10 b3 2 = some (.int .i64 v3) ∧
  ∃ v4 : Int, cellAt H_10 b3 3 = some (.int .i64 v4) ∧
  CallF Try.prog 9 #[(.pointer r1), (.int .i64 v2), (.int .i64 v3), (.int .i64 v4)] H_10 fun u3 H_11 => ∃ r0_1 : Int, ∃ r1_2 : Int, ∃ r2_2 : Int, ∃ r4 : Bool, ∃ r5 : Int, u3 = (.tuple #[(.agg #[(.int .i64 r0_1), (.int .i64 r1_2), (.int .i64 r2_2)]), (.bool r4), (.int .i64 r5)]) ∧
  ∀ (b5 : Nat) (H_12 : Heap), b5 = H_11.size → H_12 = H_11.push (.cells #[(.int .i64 0), (.int .i64 0), (.int .i64 0)] 34) →
  canSet H_12 b5 0 [(.int .i64 r0_1), (.int .i64 r1_2), (.int .i64 r2_2)] ∧
  ∀ H_13 : Heap, H_13 = setAll H_12 b5 0 [(.int .i64 r0_1), (.int .i64 r1_2), (.int .i64 r2_2)] →
  ∃ v5 : Int, cellAt H_13 b3 1 = some (.int .i64 v5) ∧
  CallF Try.prog 15 #[(.pointer r1), (.int .i64 v5)] H_13 fun u4 H_14 => ∃ r0_2 : Int, ∃ r1_3 : Int, ∃ r2_3 : Int, ∃ r6 : Bool, u4 = (.tuple #[(.agg #[(.int .i64 r0_2), (.int .i64 r1_3), (.int .i64 r2_3)]), (.bool r6)]) ∧
  ∀ (b6 : Nat) (H_15 : Heap), b6 = H_14.size → H_15 = H_14.push (.cells #[(.int .i64 0), (.int .i64 0), (.int .i64 0)] 34) →
  canSet H_15 b6 0 [(.int .i64 r0_2), (.int .i64 r1_3), (.int .i64 r2_3)] ∧
  ∀ H_16 : Heap, H_16 = setAll H_15 b6 0 [(.int .i64 r0_2), (.int .i64 r1_3), (.int .i64 r2_3)] →
  (((!decide (r5 = 0))) = true →
  ∃ c0_1 : Int, ∃ c1_1 : Int, ∃ c2_1 : Int, ((r4 = false) → cellsAre H_16 b6 0 [(.int .i64 c0_1), (.int .i64 c1_1), (.int .i64 c2_1)]) ∧
  ∃ c0_2 : Int, ∃ c1_2 : Int, ∃ c2_2 : Int, ((r4 = false) → cellsAre H_16 b4 0 [(.int .i64 c0_2), (.int .i64 c1_2), (.int .i64 c2_2)]) ∧
  ∃ eq : Bool, ((r4 = false) → EqRun Try.prog .neq 34 (.agg #[(.int .i64 c0_1), (.int .i64 c1_1), (.int .i64 c2_1)]) (.agg #[(.int .i64 c0_2), (.int .i64 c1_2), (.int .i64 c2_2)]) eq) ∧
  ((((r4 || eq) || (!(r6 == r3)))) = true →
  K (.bool false) H_16) ∧
  ((((r4 || eq) || (!(r6 == r3)))) = false →
  Jn t4 H_16)) ∧
  (((!decide (r5 = 0))) = false →
  ∃ c0_3 : Int, ∃ c1_3 : Int, ∃ c2_3 : Int, (((!r6) = false) → cellsAre H_16 b6 0 [(.int .i64 c0_3), (.int .i64 c1_3), (.int .i64 c2_3)]) ∧
  ∃ c0_4 : Int, ∃ c1_4 : Int, ∃ c2_4 : Int, (((!r6) = false) → cellsAre H_16 b5 0 [(.int .i64 c0_4), (.int .i64 c1_4), (.int .i64 c2_4)]) ∧
  ∃ eq1 : Bool, (((!r6) = false) → EqRun Try.prog .neq 34 (.agg #[(.int .i64 c0_3), (.int .i64 c1_3), (.int .i64 c2_3)]) (.agg #[(.int .i64 c0_4), (.int .i64 c1_4), (.int .i64 c2_4)]) eq1) ∧
  ∃ v6 : Int, (((((!r6) || eq1) = false) ∧ r3 = true) → cellAt H_16 b5 0 = some (.int .i64 v6)) ∧
  ∃ v7 : Int, (((((!r6) || eq1) = false) ∧ r3 = true) → cellAt H_16 b4 0 = some (.int .i64 v7)) ∧
  ∃ v8 : Int, ((((((!r6) || eq1) = false) ∧ r3 = true) ∧ (decide (v6 < v7)) = false) → cellAt H_16 b5 1 = some (.int .i64 v8)) ∧
  ∃ v9 : Int, ((((((!r6) || eq1) = false) ∧ r3 = true) ∧ (decide (v6 < v7)) = false) → cellAt H_16 b4 1 = some (.int .i64 v9)) ∧
  ∃ v10 : Int, (((((!r6) || eq1) || (r3 && ((decide (v6 < v7)) || (decide (v8 < v9))))) = false) → cellAt H_16 b5 0 = some (.int .i64 v10)) ∧
  ∃ v11 : Int, (((((!r6) || eq1) || (r3 && ((decide (v6 < v7)) || (decide (v8 < v9))))) = false) → cellAt H_16 b4 0 = some (.int .i64 v11)) ∧
  ∃ v12 : Int, ((((((!r6) || eq1) || (r3 && ((decide (v6 < v7)) || (decide (v8 < v9))))) || (!(r4 == (decide (v11 < v10))))) = false) → cellAt H_16 b5 1 = some (.int .i64 v12)) ∧
  ∃ v13 : Int, ((((((!r6) || eq1) || (r3 && ((decide (v6 < v7)) || (decide (v8 < v9))))) || (!(r4 == (decide (v11 < v10))))) = false) → cellAt H_16 b3 2 = some (.int .i64 v13)) ∧
  (((((((!r6) || eq1) || (r3 && ((decide (v6 < v7)) || (decide (v8 < v9))))) || (!(r4 == (decide (v11 < v10))))) || (!decide (v12 = v13)))) = true →
  K (.bool false) H_16) ∧
  (((((((!r6) || eq1) || (r3 && ((decide (v6 < v7)) || (decide (v8 < v9))))) || (!(r4 == (decide (v11 < v10))))) || (!decide (v12 = v13)))) = false →
  ∃ v14 : Int, cellAt H_16 b3 1 = some (.int .i64 v14) ∧
  ∃ v15 : Int, cellAt H_16 b5 1 = some (.int .i64 v15) ∧
  ∃ m : Int, ReadRun Try.prog (Instr.lookup 49 (.map (some b)) (.agg #[(.int .i64 v14), (.int .i64 v15)]) false) H_16 (.int .i64 m) ∧
  ∃ v16 : Int, cellAt H_16 b3 1 = some (.int .i64 v16) ∧
  ∃ v17 : Int, cellAt H_16 b5 0 = some (.int .i64 v17) ∧
  ∃ m1 : Int, ReadRun Try.prog (Instr.lookup 49 (.map (some b1)) (.agg #[(.int .i64 v16), (.int .i64 v17)]) false) H_16 (.int .i64 m1) ∧
  ∃ v18 : Int, (((decide (0 < m)) = true) → cellAt H_16 b5 0 = some (.int .i64 v18)) ∧
  ∃ v19 : Int, (((((decide (0 < m)) && (!decide (m = v18))) = false) ∧ (decide (0 < m1)) = true) → cellAt H_16 b5 1 = some (.int .i64 v19)) ∧
  (((((decide (0 < m)) && (!decide (m = v18))) || ((decide (0 < m1)) && (!decide (m1 = v19))))) = true →
  K (.bool false) H_16) ∧
  (((((decide (0 < m)) && (!decide (m = v18))) || ((decide (0 < m1)) && (!decide (m1 = v19))))) = false →
  ∃ v20 : Int, cellAt H_16 b3 1 = some (.int .i64 v20) ∧
  ∃ v21 : Int, cellAt H_16 b5 1 = some (.int .i64 v21) ∧
  ∃ v22 : Int, cellAt H_16 b5 0 = some (.int .i64 v22) ∧
  RunW Try.prog (Instr.mapUpdate 49 (.map (some b)) (.agg #[(.int .i64 v20), (.int .i64 v21)]) (.int .i64 v22)) H_16 fun u5 H_17 =>
  ∃ v23 : Int, cellAt H_17 b3 1 = some (.int .i64 v23) ∧
  ∃ v24 : Int, cellAt H_17 b5 0 = some (.int .i64 v24) ∧
  ∃ v25 : Int, cellAt H_17 b5 1 = some (.int .i64 v25) ∧
  RunW Try.prog (Instr.mapUpdate 49 (.map (some b1)) (.agg #[(.int .i64 v23), (.int .i64 v24)]) (.int .i64 v25)) H_17 fun u6 H_18 =>
  Jn t4 H_18))))) ∧
  (((decide (i < (callsn : Int)))) = false →
  ∀ (b7 : Nat) (H_19 : Heap), b7 = H_4.size → H_19 = H_4.push (.cells #[(.int .i64 0)] 3) →
  canSet H_19 b7 0 [(.int .i64 0)] ∧
  ∀ H_20 : Heap, H_20 = setAll H_19 b7 0 [(.int .i64 0)] →
  CallF Try.prog 18 #[(.pointer r1)] H_20 fun u7 H_21 => ∃ rf : FuncId, ∃ rl : List Value, u7 = (.func (.func rf) #[] ⟨rl⟩) ∧
  memN rf X.calls = true ∧
  ∀ R : Loop, R.state = .ready → R.pending = none →
  (∀ (vs : List Value) (H_22 : Heap) (K_ : Value → Heap → Prop), RollRises.y2 b7 H_21 R vs H_22 K_ → YieldF Try.prog (H_21.size + 1) vs H_22 K_) →
  CallF Try.prog rf ⟨(.func (.yield (H_21.size + 1)) #[] #[]) :: rl⟩ ((H_21.push (.deferred (some []))).push (.loop R)) fun u8 H_25 => ∃ (st : LoopState) (pd : Option Code), st ≠ .busy ∧ H_25[H_21.size + 1]? = some (.loop { R with state := st, pending := pd }) ∧
  ∀ H_26 : Heap, H_26 = setLoop H_25 (H_21.size + 1) { R with state := .exhausted, pending := pd } →
  pd = none ∧
  ∃ v27 : Int, cellAt H_26 b7 0 = some (.int .i64 v27) ∧
  H_26[H_21.size]? = some (.deferred (some [])) ∧
  K (.bool (decide (v27 ≤ most))) (H_26.setIfInBounds H_21.size (.deferred none)))

def RollRises.code (most : Int) (callsa : Option Addr) (callsn : Nat) (callsc : Nat) (H : Heap) (K : Value → Heap → Prop) : Prop :=
  CallF Try.prog 6 #[] H fun u H_ => ∃ r : Bool, u = (.bool r) ∧
  (((!r)) = true →
  K (.bool false) H_) ∧
  (((!r)) = false →
  (((decide (100 < (callsn : Int)))) = true →
  K (.bool true) H_) ∧
  (((decide (100 < (callsn : Int)))) = false →
  CallF Try.prog 7 #[(.int .i64 most)] H_ fun u1 H_1 => ∃ r1 : Option Addr, ∃ r2 : Int, u1 = (.tuple #[(.pointer r1), (.int .i64 r2)]) ∧
  ((((!decide (r2 = 0)) || r1.isNone)) = true →
  K (.bool r1.isNone) H_1) ∧
  ((((!decide (r2 = 0)) || r1.isNone)) = false →
  ∀ (b : Nat) (H_2 : Heap), b = H_1.size → H_2 = H_1.push (.map #[] 0) →
  ∀ (b1 : Nat) (H_3 : Heap), b1 = H_2.size → H_3 = H_2.push (.map #[] 0) →
  ∃ (Inv : Bool → Int → Heap → Prop) (mu : Bool → Int → Heap → Nat), Inv false 0 H_3 ∧
  ∀ (t4 : Bool) (i : Int), ∀ H_4 : Heap, Inv t4 i H_4 → RollRises.l3 most callsa callsn K r1 b b1 Inv mu t4 i H_4)))

def RollRises.ann : Ann := (.seq .reg (.seq (.seq .reg (.cond (.seq .reg .no) .no)) (.seq (.seq .reg (.cond (.seq .reg .no) .no)) (.seq .reg (.seq (.seq .reg (.cond (.seq .reg .no) .no)) (.seq .reg (.seq .reg (.seq (.seq .reg (.blk (.loop [(4, .one (.bool)), (9, .one (.int .i64))] (.seq (.seq .reg (.cond .no .no)) (.seq (.blkJ [(4, .one (.bool))] (.seq .reg (.seq (.seq .reg (.cond .no .no)) (.seq .reg (.seq .reg (.seq .reg (.seq (.seq .reg (.cond (.seq (.seq .reg (.cond (.seq .reg .no) .no)) .no) .no)) (.seq (.seq .reg (.cond (.seq .reg .no) .no)) (.seq .reg (.seq .reg (.seq (.seq .reg (.cond (.seq .reg .no) .no)) (.seq .reg .reg)))))))))))) .reg))))) (.seq .reg (.seq (.seq .reg (.blk (.rng [.one (.int .i64), .agg [.int .i64, .int .i64, .int .i64]] [none] .no (.blk .reg)))) (.seq .reg .no)))))))))))

theorem RollRises.eq (most : Int) (callsa : Option Addr) (callsn : Nat) (callsc : Nat) (H : Heap) (K : Value → Heap → Prop) : vcFun X Try.f4 RollRises.ann [(.int .i64 most), (.slice callsa callsn callsc)] H K = RollRises.code most callsa callsn callsc H K := by kernel_rfl

theorem RollRises.call {most : Int} {callsa : Option Addr} {callsn : Nat} {callsc : Nat} {H : Heap} {K : Value → Heap → Prop} (h : RollRises.code most callsa callsn callsc H K) : CallF Try.prog 4 #[(.int .i64 most), (.slice callsa callsn callsc)] H K :=
  callF_of_eq (X := X) X_P X_wide X_bodied Try.func4 (RollRises.eq most callsa callsn callsc H K) h

def RollCalls.r1 (K : Value → Heap → Prop) (r1 : Option Addr) (r3 : Option Addr) (Inv : Int → Heap → Prop) (mu : Int → Heap → Nat) (i : Int) (H_3 : Heap) (t133 : Bool) (H_7 : Heap) : Prop :=
  ((t133) = true →
  K (.bool false) H_7) ∧
  ((t133) = false →
  CallF Try.prog 14 #[(.pointer r1), (.pointer r3)] H_7 fun u3 H_8 => ∃ r5 : Bool, u3 = (.bool r5) ∧
  (((!r5)) = true →
  K (.bool false) H_8) ∧
  (((!r5)) = false →
  Inv (IntKind.i64.wrap (i + 1)) H_8 ∧ mu (IntKind.i64.wrap (i + 1)) H_8 < mu i H_3))

def RollCalls.r2 (K : Value → Heap → Prop) (r1 : Option Addr) (r3 : Option Addr) (Inv : Int → Heap → Prop) (mu : Int → Heap → Nat) (i : Int) (H_3 : Heap) (b1 : Nat) (H_6 : Heap) : Prop :=
  ∀ Jn1 : Bool → Heap → Prop, (∀ (t133 : Bool), ∀ H_7 : Heap, RollCalls.r1 K r1 r3 Inv mu i H_3 t133 H_7 → Jn1 t133 H_7) →
  ∃ v1 : Int, cellAt H_6 b1 0 = some (.int .i64 v1) ∧
  ∃ v2 : Int, (((decide (v1 = 1)) = true) → cellAt H_6 b1 1 = some (.int .i64 v2)) ∧
  ∃ v3 : Int, (((decide (v1 = 1)) = true) → cellAt H_6 b1 4 = some (.int .i64 v3)) ∧
  ∃ v4 : Int, (((decide (v1 = 1)) = true) → cellAt H_6 b1 2 = some (.int .i64 v4)) ∧
  ∃ v5 : Int, (((decide (v1 = 1)) = true) → cellAt H_6 b1 3 = some (.int .i64 v5)) ∧
  ∃ v6 : Int, (((decide (v1 = 1)) = true) → cellAt H_6 b1 1 = some (.int .i64 v6)) ∧
  ∃ v7 : Int, (((decide (v1 = 1)) = true) → cellAt H_6 b1 4 = some (.int .i64 v7)) ∧
  ∃ v8 : Int, (((decide (v1 = 1)) = true) → cellAt H_6 b1 2 = some (.int .i64 v8)) ∧
  ∃ v9 : Int, (((decide (v1 = 1)) = true) → cellAt H_6 b1 3 = some (.int .i64 v9)) ∧
  (((decide (v1 = 1)) = true) →
  CallF Try.prog 12 #[(.pointer r1), (.int .i64 v2), (.agg #[(.int .i64 v3), (.int .i64 v4), (.int .i64 v5)])] H_6 fun u4 H_9 => ∃ r6 : Int, u4 = (.int .i64 r6) ∧
  (((decide (v1 = 1)) = true) → cellAt H_9 b1 3 = some (.int .i64 v9)) ∧
  (((decide (v1 = 1)) = true) → cellAt H_9 b1 2 = some (.int .i64 v8)) ∧
  (((decide (v1 = 1)) = true) → cellAt H_9 b1 4 = some (.int .i64 v7)) ∧
  (((decide (v1 = 1)) = true) → cellAt H_9 b1 1 = some (.int .i64 v6)) ∧
  CallF Try.prog 13 #[(.pointer r3), (.int .i64 v6), (.agg #[(.int .i64 v7), (.int .i64 v8), (.int .i64 v9)])] H_9 fun u5 H_10 => ∃ r7 : Int, u5 = (.int .i64 r7) ∧
  Jn1 (!decide (r6 = r7)) H_10) ∧
  (¬ ((decide (v1 = 1)) = true) →
  (((decide (v1 = 1)) = true) → cellAt H_6 b1 3 = some (.int .i64 v9)) ∧
  (((decide (v1 = 1)) = true) → cellAt H_6 b1 2 = some (.int .i64 v8)) ∧
  (((decide (v1 = 1)) = true) → cellAt H_6 b1 4 = some (.int .i64 v7)) ∧
  (((decide (v1 = 1)) = true) → cellAt H_6 b1 1 = some (.int .i64 v6)) ∧
  Jn1 false H_6)

def RollCalls.r3 (K : Value → Heap → Prop) (t8 : Bool) (H_24 : Heap) : Prop :=
  K (.bool t8) H_24

def RollCalls.l4 (callsa : Option Addr) (callsn : Nat) (agent : Int) (epoch : Int) (K : Value → Heap → Prop) (r1 : Option Addr) (r2 : Int) (r3 : Option Addr) (Inv : Int → Heap → Prop) (mu : Int → Heap → Nat) (i : Int) (H_3 : Heap) : Prop :=
  (((decide (i < (callsn : Int)))) = true →
  ((0 : Int) ≤ i ∧ i < (callsn : Int)) ∧ ∃ b o : Nat, (callsa = some ⟨b, o, none⟩) ∧
  ∃ c0 : Int, ∃ c1 : Int, ∃ c2 : Int, ∃ c3 : Int, ∃ c4 : Int, cellsAre H_3 b (o + i.toNat * 5) [(.int .i64 c0), (.int .i64 c1), (.int .i64 c2), (.int .i64 c3), (.int .i64 c4)] ∧
  ∀ (b1 : Nat) (H_4 : Heap), b1 = H_3.size → H_4 = H_3.push (.cells #[(.int .i64 0), (.int .i64 0), (.int .i64 0), (.int .i64 0), (.int .i64 0)] 32) →
  canSet H_4 b1 0 [(.int .i64 c0), (.int .i64 c1), (.int .i64 c2), (.int .i64 c3), (.int .i64 c4)] ∧
  ∀ H_5 : Heap, H_5 = setAll H_4 b1 0 [(.int .i64 c0), (.int .i64 c1), (.int .i64 c2), (.int .i64 c3), (.int .i64 c4)] →
  ∃ v : Int, cellAt H_5 b1 0 = some (.int .i64 v) ∧
  ∀ Jn : Heap → Prop, (∀ H_6 : Heap, RollCalls.r2 K r1 r3 Inv mu i H_3 b1 H_6 → Jn H_6) →
  (((decide (v = 0))) = true →
  ∃ v10 : Int, cellAt H_5 b1 1 = some (.int .i64 v10) ∧
  ∃ v11 : Int, cellAt H_5 b1 2 = some (.int .i64 v11) ∧
  ∃ v12 : Int, cellAt H_5 b1 3 = some (.int .i64 v12) ∧
  CallF Try.prog 9 #[(.pointer r1), (.int .i64 v10), (.int .i64 v11), (.int .i64 v12)] H_5 fun u6 H_11 => ∃ r0 : Int, ∃ r1_1 : Int, ∃ r2_1 : Int, ∃ r8 : Bool, ∃ r9 : Int, u6 = (.tuple #[(.agg #[(.int .i64 r0), (.int .i64 r1_1), (.int .i64 r2_1)]), (.bool r8), (.int .i64 r9)]) ∧
  ∀ (b2 : Nat) (H_12 : Heap), b2 = H_11.size → H_12 = H_11.push (.cells #[(.int .i64 0), (.int .i64 0), (.int .i64 0)] 34) →
  canSet H_12 b2 0 [(.int .i64 r0), (.int .i64 r1_1), (.int .i64 r2_1)] ∧
  ∀ H_13 : Heap, H_13 = setAll H_12 b2 0 [(.int .i64 r0), (.int .i64 r1_1), (.int .i64 r2_1)] →
  ∃ v13 : Int, cellAt H_13 b1 1 = some (.int .i64 v13) ∧
  ∃ v14 : Int, cellAt H_13 b1 2 = some (.int .i64 v14) ∧
  ∃ v15 : Int, cellAt H_13 b1 3 = some (.int .i64 v15) ∧
  CallF Try.prog 10 #[(.pointer r3), (.int .i64 v13), (.int .i64 v14), (.int .i64 v15)] H_13 fun u7 H_14 => ∃ r0_1 : Int, ∃ r1_2 : Int, ∃ r2_2 : Int, ∃ r10 : Bool, ∃ r11 : Int, u7 = (.tuple #[(.agg #[(.int .i64 r0_1), (.int .i64 r1_2), (.int .i64 r2_2)]), (.bool r10), (.int .i64 r11)]) ∧
  ∀ (b3 : Nat) (H_15 : Heap), b3 = H_14.size → H_15 = H_14.push (.cells #[(.int .i64 0), (.int .i64 0), (.int .i64 0)] 37) →
  canSet H_15 b3 0 [(.int .i64 r0_1), (.int .i64 r1_2), (.int .i64 r2_2)] ∧
  ∀ H_16 : Heap, H_16 = setAll H_15 b3 0 [(.int .i64 r0_1), (.int .i64 r1_2), (.int .i64 r2_2)] →
  ∃ c0_1 : Int, ∃ c1_1 : Int, ∃ c2_1 : Int, cellsAre H_16 b2 0 [(.int .i64 c0_1), (.int .i64 c1_1), (.int .i64 c2_1)] ∧
  ∃ c0_2 : Int, ∃ c1_2 : Int, ∃ c2_2 : Int, cellsAre H_16 b3 0 [(.int .i64 c0_2), (.int .i64 c1_2), (.int .i64 c2_2)] ∧
  CallF Try.prog 11 #[(.agg #[(.int .i64 c0_1), (.int .i64 c1_1), (.int .i64 c2_1)])] H_16 fun u8 H_17 => ∃ r0_2 : Int, ∃ r1_3 : Int, ∃ r2_3 : Int, u8 = (.agg #[(.int .i64 r0_2), (.int .i64 r1_3), (.int .i64 r2_3)]) ∧
  cellsAre H_17 b3 0 [(.int .i64 c0_2), (.int .i64 c1_2), (.int .i64 c2_2)] ∧
  ∃ eq : Bool, EqRun Try.prog .neq 37 (.agg #[(.int .i64 r0_2), (.int .i64 r1_3), (.int .i64 r2_3)]) (.agg #[(.int .i64 c0_2), (.int .i64 c1_2), (.int .i64 c2_2)]) eq ∧
  ((((eq || (!(r8 == r10))) || (!decide (r9 = r11)))) = true →
  K (.bool false) H_17) ∧
  ((((eq || (!(r8 == r10))) || (!decide (r9 = r11)))) = false →
  Jn H_17)) ∧
  (((decide (v = 0))) = false →
  Jn H_5)) ∧
  (((decide (i < (callsn : Int)))) = false →
  CallF Try.prog 15 #[(.pointer r1), (.int .i64 agent)] H_3 fun u9 H_18 => ∃ r0_3 : Int, ∃ r1_4 : Int, ∃ r2_4 : Int, ∃ r12 : Bool, u9 = (.tuple #[(.agg #[(.int .i64 r0_3), (.int .i64 r1_4), (.int .i64 r2_4)]), (.bool r12)]) ∧
  ∀ (b4 : Nat) (H_19 : Heap), b4 = H_18.size → H_19 = H_18.push (.cells #[(.int .i64 0), (.int .i64 0), (.int .i64 0)] 34) →
  canSet H_19 b4 0 [(.int .i64 r0_3), (.int .i64 r1_4), (.int .i64 r2_4)] ∧
  ∀ H_20 : Heap, H_20 = setAll H_19 b4 0 [(.int .i64 r0_3), (.int .i64 r1_4), (.int .i64 r2_4)] →
  CallF Try.prog 16 #[(.pointer r3), (.int .i64 agent)] H_20 fun u10 H_21 => ∃ r0_4 : Int, ∃ r1_5 : Int, ∃ r2_5 : Int, u10 = (.agg #[(.int .i64 r0_4), (.int .i64 r1_5), (.int .i64 r2_5)]) ∧
  ∀ (b5 : Nat) (H_22 : Heap), b5 = H_21.size → H_22 = H_21.push (.cells #[(.int .i64 0), (.int .i64 0), (.int .i64 0)] 37) →
  canSet H_22 b5 0 [(.int .i64 r0_4), (.int .i64 r1_5), (.int .i64 r2_5)] ∧
  ∀ H_23 : Heap, H_23 = setAll H_22 b5 0 [(.int .i64 r0_4), (.int .i64 r1_5), (.int .i64 r2_5)] →
  ∀ Jn2 : Bool → Heap → Prop, (∀ (t8 : Bool), ∀ H_24 : Heap, RollCalls.r3 K t8 H_24 → Jn2 t8 H_24) →
  ∃ c0_3 : Int, ∃ c1_3 : Int, ∃ c2_3 : Int, cellsAre H_23 b4 0 [(.int .i64 c0_3), (.int .i64 c1_3), (.int .i64 c2_3)] ∧
  ∃ c0_4 : Int, ∃ c1_4 : Int, ∃ c2_4 : Int, cellsAre H_23 b5 0 [(.int .i64 c0_4), (.int .i64 c1_4), (.int .i64 c2_4)] ∧
  CallF Try.prog 11 #[(.agg #[(.int .i64 c0_3), (.int .i64 c1_3), (.int .i64 c2_3)])] H_23 fun u11 H_25 => ∃ r0_5 : Int, ∃ r1_6 : Int, ∃ r2_6 : Int, u11 = (.agg #[(.int .i64 r0_5), (.int .i64 r1_6), (.int .i64 r2_6)]) ∧
  cellsAre H_25 b5 0 [(.int .i64 c0_4), (.int .i64 c1_4), (.int .i64 c2_4)] ∧
  ∃ eq1 : Bool, EqRun Try.prog .eql 37 (.agg #[(.int .i64 r0_5), (.int .i64 r1_6), (.int .i64 r2_6)]) (.agg #[(.int .i64 c0_4), (.int .i64 c1_4), (.int .i64 c2_4)]) eq1 ∧
  ∃ v16 : Int, ((eq1 = true) → cellAt H_25 b5 0 = some (.int .i64 v16)) ∧
  (((eq1 && (r12 == (decide (0 < v16)))) = true) →
  CallF Try.prog 17 #[(.pointer r1), (.int .i64 agent), (.int .i64 epoch)] H_25 fun u12 H_26 => ∃ r13 : Bool, u12 = (.bool r13) ∧
  ∃ v17 : Int, ((r12 = true) → cellAt H_26 b5 0 = some (.int .i64 v17)) ∧
  Jn2 (r13 == (r12 && (decide (v17 = epoch)))) H_26) ∧
  (¬ ((eq1 && (r12 == (decide (0 < v16)))) = true) →
  Jn2 false H_25))

def RollCalls.code (most : Int) (callsa : Option Addr) (callsn : Nat) (callsc : Nat) (agent : Int) (epoch : Int) (H : Heap) (K : Value → Heap → Prop) : Prop :=
  CallF Try.prog 6 #[] H fun u H_ => ∃ r : Bool, u = (.bool r) ∧
  (((!r)) = true →
  K (.bool false) H_) ∧
  (((!r)) = false →
  (((decide (100 < (callsn : Int)))) = true →
  K (.bool true) H_) ∧
  (((decide (100 < (callsn : Int)))) = false →
  CallF Try.prog 7 #[(.int .i64 most)] H_ fun u1 H_1 => ∃ r1 : Option Addr, ∃ r2 : Int, u1 = (.tuple #[(.pointer r1), (.int .i64 r2)]) ∧
  CallF Try.prog 8 #[(.int .i64 most)] H_1 fun u2 H_2 => ∃ r3 : Option Addr, ∃ r4 : Int, u2 = (.tuple #[(.pointer r3), (.int .i64 r4)]) ∧
  ((((!decide (r2 = r4)) || (!(r1.isNone == r3.isNone)))) = true →
  K (.bool false) H_2) ∧
  ((((!decide (r2 = r4)) || (!(r1.isNone == r3.isNone)))) = false →
  (((r1.isNone || r3.isNone)) = true →
  K (.bool true) H_2) ∧
  (((r1.isNone || r3.isNone)) = false →
  ∃ (Inv : Int → Heap → Prop) (mu : Int → Heap → Nat), Inv 0 H_2 ∧
  ∀ (i : Int), ∀ H_3 : Heap, Inv i H_3 → RollCalls.l4 callsa callsn agent epoch K r1 r2 r3 Inv mu i H_3))))

def RollCalls.ann : Ann := (.seq .reg (.seq (.seq .reg (.cond (.seq .reg .no) .no)) (.seq (.seq .reg (.cond (.seq .reg .no) .no)) (.seq .reg (.seq .reg (.seq (.seq .reg (.cond (.seq .reg .no) .no)) (.seq (.seq .reg (.cond (.seq .reg .no) .no)) (.seq (.seq .reg (.blk (.loop [(13, .one (.int .i64))] (.seq (.seq .reg (.cond .no .no)) (.seq (.blk (.seq .reg (.seq (.seq .reg (.condJ [] (.seq .reg (.seq .reg (.seq .reg (.cond (.seq .reg .no) .no)))) .no)) (.seq (.seq (.regJ [(133, .one (.bool))]) (.cond (.seq .reg .no) .no)) (.seq .reg (.cond (.seq .reg .no) .no)))))) .reg))))) (.seq .reg (.seq .reg (.seq (.regJ [(8, .one (.bool))]) .no)))))))))))

theorem RollCalls.eq (most : Int) (callsa : Option Addr) (callsn : Nat) (callsc : Nat) (agent : Int) (epoch : Int) (H : Heap) (K : Value → Heap → Prop) : vcFun X Try.f3 RollCalls.ann [(.int .i64 most), (.slice callsa callsn callsc), (.int .i64 agent), (.int .i64 epoch)] H K = RollCalls.code most callsa callsn callsc agent epoch H K := by kernel_rfl

theorem RollCalls.call {most : Int} {callsa : Option Addr} {callsn : Nat} {callsc : Nat} {agent : Int} {epoch : Int} {H : Heap} {K : Value → Heap → Prop} (h : RollCalls.code most callsa callsn callsc agent epoch H K) : CallF Try.prog 3 #[(.int .i64 most), (.slice callsa callsn callsc), (.int .i64 agent), (.int .i64 epoch)] H K :=
  callF_of_eq (X := X) X_P X_wide X_bodied Try.func3 (RollCalls.eq most callsa callsn callsc agent epoch H K) h

end Go.Proofs.Ytgkfpgocbciilaa
