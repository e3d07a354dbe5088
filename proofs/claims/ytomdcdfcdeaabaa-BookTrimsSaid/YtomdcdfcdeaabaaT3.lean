import Derived.Test.YtomdcdfcdeaabaaT2
set_option maxRecDepth 100000
set_option linter.unusedVariables false
namespace Go.Proofs.Ytomdcdfcdeaabaa
open Go Go.Nm Go.Proofs

def alive_28.r1 (K : Value → Heap → Prop) (t0 : Bool) (H_22 : Heap) : Prop :=
  K (.bool t0) H_22

def alive_28.code  (H : Heap) (K : Value → Heap → Prop) : Prop :=
  CallF Try.prog 15 #[] H fun u H_ => ∃ r : Option Addr, u = (.pointer r) ∧
  ((r.isNone) = true →
  K (.bool false) H_) ∧
  ((r.isNone) = false →
  CallF Try.prog 37 #[(.pointer r), (.int .i64 64)] H_ fun u1 H_1 => ∃ r1 : Option Addr, ∃ ra : Option Addr, ∃ rn : Nat, ∃ rc : Nat, ∃ r2 : Int, u1 = (.tuple #[(.pointer r1), (.slice ra rn rc), (.int .i64 r2)]) ∧
  ((((!decide (r2 = 0)) || r1.isNone)) = true →
  K (.bool false) H_1) ∧
  ((((!decide (r2 = 0)) || r1.isNone)) = false →
  ∀ (b : Nat) (H_2 : Heap), b = H_1.size → H_2 = H_1.push (.cells #[(.int .u8 97)] 5) →
  RunW Try.prog (convert 32 32 (.slice (some ⟨b, 0, none⟩) 1 1)) H_2 fun u2 H_3 =>
  ∃ sa : Option Addr, ∃ sn : Nat, ∃ sc : Nat, u2 = (.slice sa sn sc) ∧
  ∀ (b1 : Nat) (H_4 : Heap), b1 = H_3.size → H_4 = H_3.push (.cells #[(.int .u8 98)] 5) →
  RunW Try.prog (convert 32 32 (.slice (some ⟨b1, 0, none⟩) 1 1)) H_4 fun u3 H_5 =>
  ∃ sa1 : Option Addr, ∃ sn1 : Nat, ∃ sc1 : Nat, u3 = (.slice sa1 sn1 sc1) ∧
  ∀ (b2 : Nat) (H_6 : Heap), b2 = H_5.size → H_6 = H_5.push (.cells #[(.slice sa sn sc), (.slice sa1 sn1 sc1)] 32) →
  CallF Try.prog 43 #[(.pointer r1), (.int .i64 1), (.slice (some ⟨b2, 0, none⟩) 2 2)] H_6 fun u4 H_7 => ∃ r3 : Int, ∃ r4 : Int, u4 = (.tuple #[(.int .i64 r3), (.int .i64 r4)]) ∧
  CallF Try.prog 44 #[(.pointer r1)] H_7 fun u5 H_8 => u5 = (.tuple #[]) ∧
  ∃ r5 : Int, CallQ Try.prog 41 #[(.pointer r1)] H_8 (.int .i64 r5) ∧
  RunW Try.prog (Instr.makeSlice 32 (.int .i64 70) (.int .i64 70)) H_8 fun u6 H_9 =>
  ∃ sa2 : Option Addr, ∃ sn2 : Nat, ∃ sc2 : Nat, u6 = (.slice sa2 sn2 sc2) ∧
  ∀ (b3 : Nat) (H_10 : Heap), b3 = H_9.size → H_10 = H_9.push (.cells #[(.slice sa2 sn2 sc2)] 32) →
  CallF Try.prog 43 #[(.pointer r1), (.int .i64 2), (.slice (some ⟨b3, 0, none⟩) 1 1)] H_10 fun u7 H_11 => ∃ r6 : Int, ∃ r7 : Int, u7 = (.tuple #[(.int .i64 r6), (.int .i64 r7)]) ∧
  CallF Try.prog 22 #[(.pointer r), (.int .i64 9)] H_11 fun u8 H_12 => u8 = (.tuple #[]) ∧
  CallF Try.prog 37 #[(.pointer r), (.int .i64 64)] H_12 fun u9 H_13 => ∃ r8 : Option Addr, ∃ ra1 : Option Addr, ∃ rn1 : Nat, ∃ rc1 : Nat, ∃ r9 : Int, u9 = (.tuple #[(.pointer r8), (.slice ra1 rn1 rc1), (.int .i64 r9)]) ∧
  ((((!decide (r9 = 0)) || r8.isNone)) = true →
  K (.bool false) H_13) ∧
  ((((!decide (r9 = 0)) || r8.isNone)) = false →
  ∀ (b4 : Nat) (H_14 : Heap), b4 = H_13.size → H_14 = H_13.push (.cells #[(.int .u8 97), (.int .u8 98)] 5) →
  RunW Try.prog (convert 32 32 (.slice (some ⟨b4, 0, none⟩) 2 2)) H_14 fun u10 H_15 =>
  ∃ sa3 : Option Addr, ∃ sn3 : Nat, ∃ sc3 : Nat, u10 = (.slice sa3 sn3 sc3) ∧
  CallF Try.prog 29 #[(.agg #[(.int .i64 1), (.slice sa3 sn3 sc3)])] H_15 fun u11 H_16 => ∃ ra2 : Option Addr, ∃ rn2 : Nat, ∃ rc2 : Nat, ∃ r10 : Int, u11 = (.tuple #[(.slice ra2 rn2 rc2), (.int .i64 r10)]) ∧
  ((0 : Int) ≤ 0 ∧ (0 : Int) ≤ 5 ∧ (5 : Int) ≤ (rc2 : Int)) ∧
  CallF Try.prog 30 #[(.slice ra2 rn2 rc2)] H_16 fun u12 H_17 => ∃ ra3 : Option Addr, ∃ rn3 : Nat, ∃ rc3 : Nat, u12 = (.slice ra3 rn3 rc3) ∧
  RunW Try.prog (Builtin.append_ #[32, 32] 32 #[(.slice ra3 rn3 rc3), (.slice (slB ra2 0 rc2 1) 5 rc2)]) H_17 fun u13 H_18 =>
  ∃ sa4 : Option Addr, ∃ sn4 : Nat, ∃ sc4 : Nat, u13 = (.slice sa4 sn4 sc4) ∧
  CallF Try.prog 32 #[(.slice sa4 sn4 sc4)] H_18 fun u14 H_19 => ∃ ra4 : Option Addr, ∃ rn4 : Nat, ∃ rc4 : Nat, ∃ r11 : Int, u14 = (.tuple #[(.slice ra4 rn4 rc4), (.int .i64 r11)]) ∧
  (((((!decide ((rn1 : Int) = 1)) || (!decide ((rn4 : Int) = 1))) || (!decide ((rn2 : Int) = 8)))) = true →
  K (.bool false) H_19) ∧
  (((((!decide ((rn1 : Int) = 1)) || (!decide ((rn4 : Int) = 1))) || (!decide ((rn2 : Int) = 8)))) = false →
  CallF Try.prog 45 #[(.pointer r8)] H_19 fun u15 H_20 => ∃ r12 : Int, ∃ r13 : Int, u15 = (.tuple #[(.int .i64 r12), (.int .i64 r13)]) ∧
  CallF Try.prog 46 #[(.pointer r8), (.int .i64 r12)] H_20 fun u16 H_21 => ∃ r14 : Int, u16 = (.int .i64 r14) ∧
  ∀ Jn : Bool → Heap → Prop, (∀ (t0 : Bool), ∀ H_22 : Heap, alive_28.r1 K t0 H_22 → Jn t0 H_22) →
  ((((((((decide ((rn : Int) = 0)) && (decide (r3 = 0))) && (decide (r4 = 0))) && (decide (r5 = 1))) && (decide (r6 = 1))) && (decide (r7 = 0))) = true) → ((0 : Int) ≤ 0 ∧ 0 < (rn1 : Int))) ∧ ∃ b5 o : Nat, ((((((((decide ((rn : Int) = 0)) && (decide (r3 = 0))) && (decide (r4 = 0))) && (decide (r5 = 1))) && (decide (r6 = 1))) && (decide (r7 = 0))) = true) → (ra1 = some ⟨b5, o, none⟩)) ∧
  ∃ v : Int, ((((((((decide ((rn : Int) = 0)) && (decide (r3 = 0))) && (decide (r4 = 0))) && (decide (r5 = 1))) && (decide (r6 = 1))) && (decide (r7 = 0))) = true) → cellAt H_21 b5 (o + 0 * 2) = some (.int .i64 v)) ∧
  (((((((((decide ((rn : Int) = 0)) && (decide (r3 = 0))) && (decide (r4 = 0))) && (decide (r5 = 1))) && (decide (r6 = 1))) && (decide (r7 = 0))) && (decide (v = 1))) = true) → ((0 : Int) ≤ 0 ∧ 0 < (rn1 : Int))) ∧ ∃ b6 o1 : Nat, (((((((((decide ((rn : Int) = 0)) && (decide (r3 = 0))) && (decide (r4 = 0))) && (decide (r5 = 1))) && (decide (r6 = 1))) && (decide (r7 = 0))) && (decide (v = 1))) = true) → (ra1 = some ⟨b6, o1, none⟩)) ∧
  ∃ va : Option Addr, ∃ vn : Nat, ∃ vc : Nat, (((((((((decide ((rn : Int) = 0)) && (decide (r3 = 0))) && (decide (r4 = 0))) && (decide (r5 = 1))) && (decide (r6 = 1))) && (decide (r7 = 0))) && (decide (v = 1))) = true) → cellAt H_21 b6 (o1 + 0 * 2 + 1) = some (.slice va vn vc)) ∧
  (((((((((decide ((rn : Int) = 0)) && (decide (r3 = 0))) && (decide (r4 = 0))) && (decide (r5 = 1))) && (decide (r6 = 1))) && (decide (r7 = 0))) && (decide (v = 1))) = true) →
  ∀ (b7 : Nat) (H_23 : Heap), b7 = H_21.size → H_23 = H_21.push (.cells #[(.int .u8 97), (.int .u8 98)] 5) →
  RunW Try.prog (convert 32 32 (.slice (some ⟨b7, 0, none⟩) 2 2)) H_23 fun u17 H_24 =>
  ∃ sa5 : Option Addr, ∃ sn5 : Nat, ∃ sc5 : Nat, u17 = (.slice sa5 sn5 sc5) ∧
  ∃ r15 : Bool, CallQ Try.prog 20 #[(.slice va vn vc), (.slice sa5 sn5 sc5)] H_24 (.bool r15) ∧
  (((r15 && (decide (r10 = 0))) = true) → ((0 : Int) ≤ 0 ∧ 0 < (rn2 : Int))) ∧ ∃ b8 o2 : Nat, (((r15 && (decide (r10 = 0))) = true) → (ra2 = some ⟨b8, o2, none⟩)) ∧
  ∃ v1 : Int, (((r15 && (decide (r10 = 0))) = true) → cellAt H_24 b8 (o2 + 0) = some (.int .u8 v1)) ∧
  ∃ r16 : Int, (((((r15 && (decide (r10 = 0))) && (decide (v1 = 7))) && (decide (r11 = 8))) = true) → CallQ Try.prog 42 #[(.pointer r8)] H_24 (.int .i64 r16)) ∧
  ∃ r17 : Int, (((((((((r15 && (decide (r10 = 0))) && (decide (v1 = 7))) && (decide (r11 = 8))) && (decide (r16 = 3))) && (decide (r12 = 3))) && (decide (r13 = 0))) && (decide (r14 = 0))) = true) → CallQ Try.prog 40 #[(.pointer r8)] H_24 (.int .i64 r17)) ∧
  ((((((((((r15 && (decide (r10 = 0))) && (decide (v1 = 7))) && (decide (r11 = 8))) && (decide (r16 = 3))) && (decide (r12 = 3))) && (decide (r13 = 0))) && (decide (r14 = 0))) && (decide (r17 = 1))) = true) →
  CallF Try.prog 25 #[(.pointer r)] H_24 fun u18 H_25 => ∃ r18 : Int, u18 = (.int .i64 r18) ∧
  Jn (decide (r18 = 0)) H_25) ∧
  (¬ (((((((((r15 && (decide (r10 = 0))) && (decide (v1 = 7))) && (decide (r11 = 8))) && (decide (r16 = 3))) && (decide (r12 = 3))) && (decide (r13 = 0))) && (decide (r14 = 0))) && (decide (r17 = 1))) = true) →
  Jn false H_24)) ∧
  (¬ ((((((((decide ((rn : Int) = 0)) && (decide (r3 = 0))) && (decide (r4 = 0))) && (decide (r5 = 1))) && (decide (r6 = 1))) && (decide (r7 = 0))) && (decide (v = 1))) = true) →
  (((false && (decide (r10 = 0))) = true) → ((0 : Int) ≤ 0 ∧ 0 < (rn2 : Int))) ∧ ∃ b9 o3 : Nat, (((false && (decide (r10 = 0))) = true) → (ra2 = some ⟨b9, o3, none⟩)) ∧
  ∃ v2 : Int, (((false && (decide (r10 = 0))) = true) → cellAt H_21 b9 (o3 + 0) = some (.int .u8 v2)) ∧
  ∃ r19 : Int, (((((false && (decide (r10 = 0))) && (decide (v2 = 7))) && (decide (r11 = 8))) = true) → CallQ Try.prog 42 #[(.pointer r8)] H_21 (.int .i64 r19)) ∧
  ∃ r20 : Int, (((((((((false && (decide (r10 = 0))) && (decide (v2 = 7))) && (decide (r11 = 8))) && (decide (r19 = 3))) && (decide (r12 = 3))) && (decide (r13 = 0))) && (decide (r14 = 0))) = true) → CallQ Try.prog 40 #[(.pointer r8)] H_21 (.int .i64 r20)) ∧
  ((((((((((false && (decide (r10 = 0))) && (decide (v2 = 7))) && (decide (r11 = 8))) && (decide (r19 = 3))) && (decide (r12 = 3))) && (decide (r13 = 0))) && (decide (r14 = 0))) && (decide (r20 = 1))) = true) →
  CallF Try.prog 25 #[(.pointer r)] H_21 fun u19 H_26 => ∃ r21 : Int, u19 = (.int .i64 r21) ∧
  Jn (decide (r21 = 0)) H_26) ∧
  (¬ (((((((((false && (decide (r10 = 0))) && (decide (v2 = 7))) && (decide (r11 = 8))) && (decide (r19 = 3))) && (decide (r12 = 3))) && (decide (r13 = 0))) && (decide (r14 = 0))) && (decide (r20 = 1))) = true) →
  Jn false H_21))))))

def alive_28.ann : Ann := (.seq .reg (.seq .reg (.seq (.seq .reg (.cond (.seq .reg .no) .no)) (.seq .reg (.seq (.seq .reg (.cond (.seq .reg .no) .no)) (.seq .reg (.seq .reg (.seq .reg (.seq .reg (.seq .reg (.seq .reg (.seq (.seq .reg (.cond (.seq .reg .no) .no)) (.seq .reg (.seq .reg (.seq (.seq .reg (.cond (.seq .reg .no) .no)) (.seq .reg (.seq .reg (.seq (.regJ [(0, .one (.bool))]) .no))))))))))))))))))

theorem alive_28.eq  (H : Heap) (K : Value → Heap → Prop) : vcFun X Try.f28 alive_28.ann [] H K = alive_28.code  H K := by kernel_rfl

theorem alive_28.call  {H : Heap} {K : Value → Heap → Prop} (h : alive_28.code  H K) : CallF Try.prog 28 #[] H K :=
  callF_of_eq (X := X) X_P X_wide X_bodied Try.func28 (alive_28.eq  H K) h

def ReelDrops.r1 (Inv : Int → Heap → Prop) (mu : Int → Heap → Nat) (i : Int) (H_3 : Heap) (H_4 : Heap) : Prop :=
  Inv (IntKind.i64.wrap (i + 1)) H_4 ∧ mu (IntKind.i64.wrap (i + 1)) H_4 < mu i H_3

def ReelDrops.r2 (Jn : Heap → Prop) (H_8 : Heap) : Prop :=
  Jn H_8

def ReelDrops.l3 (below : Int) (K : Value → Heap → Prop) (ra4 : Option Addr) (rn4 : Nat) (Inv1 : Int → Heap → Prop) (mu1 : Int → Heap → Nat) (i1 : Int) (H_16 : Heap) : Prop :=
  (((decide (i1 < (rn4 : Int)))) = true →
  ((0 : Int) ≤ i1 ∧ i1 < (rn4 : Int)) ∧ ∃ b4 o3 : Nat, (ra4 = some ⟨b4, o3, none⟩) ∧
  ∃ v2 : Int, cellAt H_16 b4 (o3 + i1.toNat) = some (.int .i64 v2) ∧
  (((decide (v2 < below))) = true →
  K (.bool false) H_16) ∧
  (((decide (v2 < below))) = false →
  Inv1 (IntKind.i64.wrap (i1 + 1)) H_16 ∧ mu1 (IntKind.i64.wrap (i1 + 1)) H_16 < mu1 i1 H_16)) ∧
  (((decide (i1 < (rn4 : Int)))) = false →
  K (.bool true) H_16)

def ReelDrops.r4 (below : Int) (K : Value → Heap → Prop) (r2 : Option Addr) (t138 : Bool) (H_14 : Heap) : Prop :=
  ((t138) = true →
  K (.bool false) H_14) ∧
  ((t138) = false →
  CallF Try.prog 24 #[(.pointer r2)] H_14 fun u10 H_15 => ∃ ra4 : Option Addr, ∃ rn4 : Nat, ∃ rc4 : Nat, u10 = (.slice ra4 rn4 rc4) ∧
  ∃ (Inv1 : Int → Heap → Prop) (mu1 : Int → Heap → Nat), Inv1 0 H_15 ∧
  ∀ (i1 : Int), ∀ H_16 : Heap, Inv1 i1 H_16 → ReelDrops.l3 below K ra4 rn4 Inv1 mu1 i1 H_16)

def ReelDrops.l5 (most : Int) (callsa : Option Addr) (callsn : Nat) (below : Int) (K : Value → Heap → Prop) (r1 : Bool) (r2 : Option Addr) (r3 : Option Addr) (r4 : Int) (Inv : Int → Heap → Prop) (mu : Int → Heap → Nat) (i : Int) (H_3 : Heap) : Prop :=
  (((decide (i < (callsn : Int)))) = true →
  ((0 : Int) ≤ i ∧ i < (callsn : Int)) ∧ ∃ b o : Nat, (callsa = some ⟨b, o, none⟩) ∧
  ∃ v : Int, cellAt H_3 b (o + i.toNat * 4) = some (.int .i64 v) ∧
  ∀ Jn : Heap → Prop, (∀ H_4 : Heap, ReelDrops.r1 Inv mu i H_3 H_4 → Jn H_4) →
  (((decide (v = 0))) = true →
  ((0 : Int) ≤ i ∧ i < (callsn : Int)) ∧ ∃ b1 o1 : Nat, (callsa = some ⟨b1, o1, none⟩) ∧
  ∃ v1 : Int, cellAt H_3 b1 (o1 + i.toNat * 4 + 1) = some (.int .i64 v1) ∧
  ((0 : Int) ≤ i ∧ i < (callsn : Int)) ∧ ∃ b2 o2 : Nat, (callsa = some ⟨b2, o2, none⟩) ∧
  ∃ va : Option Addr, ∃ vn : Nat, ∃ vc : Nat, cellAt H_3 b2 (o2 + i.toNat * 4 + 3) = some (.slice va vn vc) ∧
  CallF Try.prog 30 #[(.slice va vn vc)] H_3 fun u3 H_5 => ∃ ra1 : Option Addr, ∃ rn1 : Nat, ∃ rc1 : Nat, u3 = (.slice ra1 rn1 rc1) ∧
  cellAt H_5 b1 (o1 + i.toNat * 4 + 1) = some (.int .i64 v1) ∧
  ∀ (b3 : Nat) (H_6 : Heap), b3 = H_5.size → H_6 = H_5.push (.cells #[(.slice ra1 rn1 rc1)] 32) →
  cellAt H_6 b1 (o1 + i.toNat * 4 + 1) = some (.int .i64 v1) ∧
  CallF Try.prog 43 #[(.pointer r3), (.int .i64 v1), (.slice (some ⟨b3, 0, none⟩) 1 1)] H_6 fun u4 H_7 => ∃ r5 : Int, ∃ r6 : Int, u4 = (.tuple #[(.int .i64 r5), (.int .i64 r6)]) ∧
  Jn H_7) ∧
  (((decide (v = 0))) = false →
  ∀ Jn1 : Heap → Prop, (∀ H_8 : Heap, ReelDrops.r2 Jn H_8 → Jn1 H_8) →
  (((decide (v = 2))) = true →
  CallF Try.prog 45 #[(.pointer r3)] H_3 fun u5 H_9 => ∃ r7 : Int, ∃ r8 : Int, u5 = (.tuple #[(.int .i64 r7), (.int .i64 r8)]) ∧
  Jn1 H_9) ∧
  (((decide (v = 2))) = false →
  Jn1 H_3))) ∧
  (((decide (i < (callsn : Int)))) = false →
  CallF Try.prog 44 #[(.pointer r3)] H_3 fun u6 H_10 => u6 = (.tuple #[]) ∧
  CallF Try.prog 37 #[(.pointer r2), (.int .i64 most)] H_10 fun u7 H_11 => ∃ r9 : Option Addr, ∃ ra2 : Option Addr, ∃ rn2 : Nat, ∃ rc2 : Nat, ∃ r10 : Int, u7 = (.tuple #[(.pointer r9), (.slice ra2 rn2 rc2), (.int .i64 r10)]) ∧
  ∃ r11 : Int, CallQ Try.prog 40 #[(.pointer r3)] H_11 (.int .i64 r11) ∧
  CallF Try.prog 46 #[(.pointer r3), (.int .i64 below)] H_11 fun u8 H_12 => ∃ r12 : Int, u8 = (.int .i64 r12) ∧
  CallF Try.prog 37 #[(.pointer r2), (.int .i64 most)] H_12 fun u9 H_13 => ∃ r13 : Option Addr, ∃ ra3 : Option Addr, ∃ rn3 : Nat, ∃ rc3 : Nat, ∃ r14 : Int, u9 = (.tuple #[(.pointer r13), (.slice ra3 rn3 rc3), (.int .i64 r14)]) ∧
  ∀ Jn2 : Bool → Heap → Prop, (∀ (t138 : Bool), ∀ H_14 : Heap, ReelDrops.r4 below K r2 t138 H_14 → Jn2 t138 H_14) →
  ((((((!decide (r10 = 0)) || (!decide (r12 = 0))) || (!decide (r14 = 0))) || (decide ((rn2 : Int) < (rn3 : Int)))) = false) → ((0 : Int) ≤ (IntKind.i64.wrap ((rn2 : Int) - (rn3 : Int))) ∧ (IntKind.i64.wrap ((rn2 : Int) - (rn3 : Int))) ≤ (rn2 : Int) ∧ (rn2 : Int) ≤ (rc2 : Int))) ∧
  ((((((!decide (r10 = 0)) || (!decide (r12 = 0))) || (!decide (r14 = 0))) || (decide ((rn2 : Int) < (rn3 : Int)))) = false) →
  CallF Try.prog 35 #[(.slice ra3 rn3 rc3)] H_13 fun u11 H_17 => ∃ ra5 : Option Addr, ∃ rn5 : Nat, ∃ rc5 : Nat, u11 = (.slice ra5 rn5 rc5) ∧
  CallF Try.prog 35 #[(.slice (slB ra2 ((IntKind.i64.wrap ((rn2 : Int) - (rn3 : Int))).toNat) rc2 2) (rn2 - ((IntKind.i64.wrap ((rn2 : Int) - (rn3 : Int))).toNat)) (rc2 - ((IntKind.i64.wrap ((rn2 : Int) - (rn3 : Int))).toNat)))] H_17 fun u12 H_18 => ∃ ra6 : Option Addr, ∃ rn6 : Nat, ∃ rc6 : Nat, u12 = (.slice ra6 rn6 rc6) ∧
  ∃ r15 : Bool, CallQ Try.prog 34 #[(.slice ra5 rn5 rc5), (.slice ra6 rn6 rc6)] H_18 (.bool r15) ∧
  ∃ r16 : Int, (((!r15) = false) → CallQ Try.prog 40 #[(.pointer r3)] H_18 (.int .i64 r16)) ∧
  Jn2 ((!r15) || (!decide (r16 = r11))) H_18) ∧
  (¬ (((((!decide (r10 = 0)) || (!decide (r12 = 0))) || (!decide (r14 = 0))) || (decide ((rn2 : Int) < (rn3 : Int)))) = false) →
  ∃ r17 : Int, ((true = false) → CallQ Try.prog 40 #[(.pointer r3)] H_13 (.int .i64 r17)) ∧
  Jn2 (true || (!decide (r17 = r11))) H_13))

def ReelDrops.code (most : Int) (callsa : Option Addr) (callsn : Nat) (callsc : Nat) (below : Int) (H : Heap) (K : Value → Heap → Prop) : Prop :=
  CallF Try.prog 28 #[] H fun u H_ => ∃ r : Bool, u = (.bool r) ∧
  (((!r)) = true →
  K (.bool false) H_) ∧
  (((!r)) = false →
  ∃ r1 : Bool, CallQ Try.prog 36 #[(.slice callsa callsn callsc)] H_ (.bool r1) ∧
  ((((r1 || (decide (most < 64))) || (decide (1048576 < most)))) = true →
  K (.bool true) H_) ∧
  ((((r1 || (decide (most < 64))) || (decide (1048576 < most)))) = false →
  CallF Try.prog 15 #[] H_ fun u1 H_1 => ∃ r2 : Option Addr, u1 = (.pointer r2) ∧
  ((r2.isNone) = true →
  K (.bool false) H_1) ∧
  ((r2.isNone) = false →
  CallF Try.prog 37 #[(.pointer r2), (.int .i64 most)] H_1 fun u2 H_2 => ∃ r3 : Option Addr, ∃ ra : Option Addr, ∃ rn : Nat, ∃ rc : Nat, ∃ r4 : Int, u2 = (.tuple #[(.pointer r3), (.slice ra rn rc), (.int .i64 r4)]) ∧
  ((((!decide (r4 = 0)) || r3.isNone)) = true →
  K (.bool false) H_2) ∧
  ((((!decide (r4 = 0)) || r3.isNone)) = false →
  ∃ (Inv : Int → Heap → Prop) (mu : Int → Heap → Nat), Inv 0 H_2 ∧
  ∀ (i : Int), ∀ H_3 : Heap, Inv i H_3 → ReelDrops.l5 most callsa callsn below K r1 r2 r3 r4 Inv mu i H_3))))

def ReelDrops.ann : Ann := (.seq .reg (.seq (.seq .reg (.cond (.seq .reg .no) .no)) (.seq (.seq .reg (.cond (.seq .reg .no) .no)) (.seq .reg (.seq (.seq .reg (.cond (.seq .reg .no) .no)) (.seq .reg (.seq (.seq .reg (.cond (.seq .reg .no) .no)) (.seq (.seq .reg (.blk (.loop [(11, .one (.int .i64))] (.seq (.seq .reg (.cond .no .no)) (.seq (.blk (.seq .reg (.blk (.seq .reg (.condJ [] .reg (.seq .reg (.condJ [] .reg .no))))))) .reg))))) (.seq .reg (.seq .reg (.seq .reg (.seq .reg (.seq .reg (.seq (.seq (.regJ [(138, .one (.bool))]) (.cond (.seq .reg .no) .no)) (.seq .reg (.seq (.seq .reg (.blk (.loop [(21, .one (.int .i64))] (.seq (.seq .reg (.cond .no .no)) (.seq (.blk (.seq .reg (.cond (.seq .reg .no) .no))) .reg))))) (.seq .reg .no)))))))))))))))))

theorem ReelDrops.eq (most : Int) (callsa : Option Addr) (callsn : Nat) (callsc : Nat) (below : Int) (H : Heap) (K : Value → Heap → Prop) : vcFun X Try.f11 ReelDrops.ann [(.int .i64 most), (.slice callsa callsn callsc), (.int .i64 below)] H K = ReelDrops.code most callsa callsn callsc below H K := by kernel_rfl

theorem ReelDrops.call {most : Int} {callsa : Option Addr} {callsn : Nat} {callsc : Nat} {below : Int} {H : Heap} {K : Value → Heap → Prop} (h : ReelDrops.code most callsa callsn callsc below H K) : CallF Try.prog 11 #[(.int .i64 most), (.slice callsa callsn callsc), (.int .i64 below)] H K :=
  callF_of_eq (X := X) X_P X_wide X_bodied Try.func11 (ReelDrops.eq most callsa callsn callsc below H K) h

def ReelCrash.r1 (Inv : (Option Addr) → Nat → Nat → Int → Heap → Prop) (mu : (Option Addr) → Nat → Nat → Int → Heap → Nat) (alla : Option Addr) (alln : Nat) (allc : Nat) (i : Int) (H_4 : Heap) (alla1 : Option Addr) (alln1 : Nat) (allc1 : Nat) (H_7 : Heap) : Prop :=
  Inv alla1 alln1 allc1 (IntKind.i64.wrap (i + 1)) H_7 ∧ mu alla1 alln1 allc1 (IntKind.i64.wrap (i + 1)) H_7 < mu alla alln allc i H_4

def ReelCrash.r2 (Jn : (Option Addr) → Nat → Nat → Heap → Prop) (alla2 : Option Addr) (alln2 : Nat) (allc2 : Nat) (H_11 : Heap) : Prop :=
  Jn alla2 alln2 allc2 H_11

def ReelCrash.r3 (alla : Option Addr) (alln : Nat) (allc : Nat) (Jn : (Option Addr) → Nat → Nat → Heap → Prop) (H_14 : Heap) : Prop :=
  Jn alla alln allc H_14

def ReelCrash.r4 (Jn2 : Heap → Prop) (H_16 : Heap) : Prop :=
  Jn2 H_16

def ReelCrash.r5 (K : Value → Heap → Prop) (t6 : Bool) (H_27 : Heap) : Prop :=
  K (.bool t6) H_27

def ReelCrash.r6 (most : Int) (K : Value → Heap → Prop) (r2 : Option Addr) (u8 : Value) (r10 : Option Addr) (ra2 : Option Addr) (rn2 : Nat) (rc2 : Nat) (t141 : Bool) (H_20 : Heap) : Prop :=
  ((t141) = true →
  K (.bool false) H_20) ∧
  ((t141) = false →
  ∀ (b5 : Nat) (H_21 : Heap), b5 = H_20.size → H_21 = H_20.push (.cells #[(.int .u8 120)] 5) →
  RunW Try.prog (convert 32 32 (.slice (some ⟨b5, 0, none⟩) 1 1)) H_21 fun u10 H_22 =>
  ∃ sa1 : Option Addr, ∃ sn1 : Nat, ∃ sc1 : Nat, u10 = (.slice sa1 sn1 sc1) ∧
  ∀ (b6 : Nat) (H_23 : Heap), b6 = H_22.size → H_23 = H_22.push (.cells #[(.slice sa1 sn1 sc1)] 32) →
  CallF Try.prog 43 #[(.pointer r10), (.int .i64 7), (.slice (some ⟨b6, 0, none⟩) 1 1)] H_23 fun u11 H_24 => ∃ r12 : Int, ∃ r13 : Int, u11 = (.tuple #[(.int .i64 r12), (.int .i64 r13)]) ∧
  CallF Try.prog 44 #[(.pointer r10)] H_24 fun u12 H_25 => u12 = (.tuple #[]) ∧
  CallF Try.prog 37 #[(.pointer r2), (.int .i64 most)] H_25 fun u13 H_26 => ∃ r14 : Option Addr, ∃ ra3 : Option Addr, ∃ rn3 : Nat, ∃ rc3 : Nat, ∃ r15 : Int, u13 = (.tuple #[(.pointer r14), (.slice ra3 rn3 rc3), (.int .i64 r15)]) ∧
  ∀ Jn5 : Bool → Heap → Prop, (∀ (t6 : Bool), ∀ H_27 : Heap, ReelCrash.r5 K t6 H_27 → Jn5 t6 H_27) →
  (((((decide (r13 = 0)) && (decide (r15 = 0))) && (decide ((rn3 : Int) = (IntKind.i64.wrap ((rn2 : Int) + 1))))) = true) → ((0 : Int) ≤ 0 ∧ (0 : Int) ≤ (rn2 : Int) ∧ (rn2 : Int) ≤ (rc3 : Int))) ∧
  (((((decide (r13 = 0)) && (decide (r15 = 0))) && (decide ((rn3 : Int) = (IntKind.i64.wrap ((rn2 : Int) + 1))))) = true) →
  CallF Try.prog 35 #[(.slice (slB ra3 0 rc3 2) rn2 rc3)] H_26 fun u14 H_28 => ∃ ra4 : Option Addr, ∃ rn4 : Nat, ∃ rc4 : Nat, u14 = (.slice ra4 rn4 rc4) ∧
  CallF Try.prog 35 #[(.slice ra2 rn2 rc2)] H_28 fun u15 H_29 => ∃ ra5 : Option Addr, ∃ rn5 : Nat, ∃ rc5 : Nat, u15 = (.slice ra5 rn5 rc5) ∧
  ∃ r16 : Bool, CallQ Try.prog 34 #[(.slice ra4 rn4 rc4), (.slice ra5 rn5 rc5)] H_29 (.bool r16) ∧
  ((r16 = true) → ((0 : Int) ≤ (rn2 : Int) ∧ (rn2 : Int) < (rn3 : Int))) ∧ ∃ b7 o1 : Nat, ((r16 = true) → (ra3 = some ⟨b7, o1, none⟩)) ∧
  ∃ v3 : Int, ((r16 = true) → cellAt H_29 b7 (o1 + rn2 * 2) = some (.int .i64 v3)) ∧
  Jn5 (r16 && (decide (v3 = 7))) H_29) ∧
  (¬ ((((decide (r13 = 0)) && (decide (r15 = 0))) && (decide ((rn3 : Int) = (IntKind.i64.wrap ((rn2 : Int) + 1))))) = true) →
  ((false = true) → ((0 : Int) ≤ (rn2 : Int) ∧ (rn2 : Int) < (rn3 : Int))) ∧ ∃ b8 o2 : Nat, ((false = true) → (ra3 = some ⟨b8, o2, none⟩)) ∧
  ∃ v4 : Int, ((false = true) → cellAt H_26 b8 (o2 + rn2 * 2) = some (.int .i64 v4)) ∧
  Jn5 (false && (decide (v4 = 7))) H_26))

def ReelCrash.l7 (most : Int) (callsa : Option Addr) (callsn : Nat) (keep : Int) (K : Value → Heap → Prop) (r1 : Bool) (r2 : Option Addr) (r3 : Option Addr) (r4 : Int) (Inv : (Option Addr) → Nat → Nat → Int → Heap → Prop) (mu : (Option Addr) → Nat → Nat → Int → Heap → Nat) (alla : Option Addr) (alln : Nat) (allc : Nat) (i : Int) (H_4 : Heap) : Prop :=
  (((decide (i < (callsn : Int)))) = true →
  ((0 : Int) ≤ i ∧ i < (callsn : Int)) ∧ ∃ b1 o : Nat, (callsa = some ⟨b1, o, none⟩) ∧
  ∃ c0 : Int, ∃ c1 : Int, ∃ c2 : Int, ∃ c3a : Option Addr, ∃ c3n : Nat, ∃ c3c : Nat, cellsAre H_4 b1 (o + i.toNat * 4) [(.int .i64 c0), (.int .i64 c1), (.int .i64 c2), (.slice c3a c3n c3c)] ∧
  ∀ (b2 : Nat) (H_5 : Heap), b2 = H_4.size → H_5 = H_4.push (.cells #[(.int .i64 0), (.int .i64 0), (.int .i64 0), (.slice none 0 0)] 74) →
  canSet H_5 b2 0 [(.int .i64 c0), (.int .i64 c1), (.int .i64 c2), (.slice c3a c3n c3c)] ∧
  ∀ H_6 : Heap, H_6 = setAll H_5 b2 0 [(.int .i64 c0), (.int .i64 c1), (.int .i64 c2), (.slice c3a c3n c3c)] →
  ∃ v : Int, cellAt H_6 b2 0 = some (.int .i64 v) ∧
  ∀ Jn : (Option Addr) → Nat → Nat → Heap → Prop, (∀ (alla1 : Option Addr) (alln1 : Nat) (allc1 : Nat), ∀ H_7 : Heap, ReelCrash.r1 Inv mu alla alln allc i H_4 alla1 alln1 allc1 H_7 → Jn alla1 alln1 allc1 H_7) →
  (((decide (v = 0))) = true →
  ∃ v1 : Int, cellAt H_6 b2 1 = some (.int .i64 v1) ∧
  ∃ va : Option Addr, ∃ vn : Nat, ∃ vc : Nat, cellAt H_6 b2 3 = some (.slice va vn vc) ∧
  CallF Try.prog 30 #[(.slice va vn vc)] H_6 fun u3 H_8 => ∃ ra1 : Option Addr, ∃ rn1 : Nat, ∃ rc1 : Nat, u3 = (.slice ra1 rn1 rc1) ∧
  cellAt H_8 b2 1 = some (.int .i64 v1) ∧
  ∀ (b3 : Nat) (H_9 : Heap), b3 = H_8.size → H_9 = H_8.push (.cells #[(.slice ra1 rn1 rc1)] 32) →
  cellAt H_9 b2 1 = some (.int .i64 v1) ∧
  CallF Try.prog 43 #[(.pointer r3), (.int .i64 v1), (.slice (some ⟨b3, 0, none⟩) 1 1)] H_9 fun u4 H_10 => ∃ r5 : Int, ∃ r6 : Int, u4 = (.tuple #[(.int .i64 r5), (.int .i64 r6)]) ∧
  ∀ Jn1 : (Option Addr) → Nat → Nat → Heap → Prop, (∀ (alla2 : Option Addr) (alln2 : Nat) (allc2 : Nat), ∀ H_11 : Heap, ReelCrash.r2 Jn alla2 alln2 allc2 H_11 → Jn1 alla2 alln2 allc2 H_11) →
  (((decide (r6 = 0))) = true →
  (((!decide (r5 = (alln : Int)))) = true →
  K (.bool false) H_10) ∧
  (((!decide (r5 = (alln : Int)))) = false →
  ∃ v2 : Int, cellAt H_10 b2 1 = some (.int .i64 v2) ∧
  ∃ va1 : Option Addr, ∃ vn1 : Nat, ∃ vc1 : Nat, cellAt H_10 b2 3 = some (.slice va1 vn1 vc1) ∧
  ∀ (b4 : Nat) (H_12 : Heap), b4 = H_10.size → H_12 = H_10.push (.cells #[(.int .i64 v2), (.slice va1 vn1 vc1)] 80) →
  RunW Try.prog (Builtin.append_ #[57, 57] 57 #[(.slice alla alln allc), (.slice (some ⟨b4, 0, none⟩) 1 1)]) H_12 fun u5 H_13 =>
  ∃ sa : Option Addr, ∃ sn : Nat, ∃ sc : Nat, u5 = (.slice sa sn sc) ∧
  Jn1 sa sn sc H_13)) ∧
  (((decide (r6 = 0))) = false →
  Jn1 alla alln allc H_10)) ∧
  (((decide (v = 0))) = false →
  ∀ Jn2 : Heap → Prop, (∀ H_14 : Heap, ReelCrash.r3 alla alln allc Jn H_14 → Jn2 H_14) →
  (((decide (v = 1))) = true →
  CallF Try.prog 44 #[(.pointer r3)] H_6 fun u6 H_15 => u6 = (.tuple #[]) ∧
  Jn2 H_15) ∧
  (((decide (v = 1))) = false →
  ∀ Jn3 : Heap → Prop, (∀ H_16 : Heap, ReelCrash.r4 Jn2 H_16 → Jn3 H_16) →
  (((decide (v = 2))) = true →
  CallF Try.prog 45 #[(.pointer r3)] H_6 fun u7 H_17 => ∃ r7 : Int, ∃ r8 : Int, u7 = (.tuple #[(.int .i64 r7), (.int .i64 r8)]) ∧
  Jn3 H_17) ∧
  (((decide (v = 2))) = false →
  Jn3 H_6)))) ∧
  (((decide (i < (callsn : Int)))) = false →
  ∃ r9 : Int, CallQ Try.prog 41 #[(.pointer r3)] H_4 (.int .i64 r9) ∧
  CallF Try.prog 22 #[(.pointer r2), (.int .i64 keep)] H_4 fun u8 H_18 => u8 = (.tuple #[]) ∧
  CallF Try.prog 37 #[(.pointer r2), (.int .i64 most)] H_18 fun u9 H_19 => ∃ r10 : Option Addr, ∃ ra2 : Option Addr, ∃ rn2 : Nat, ∃ rc2 : Nat, ∃ r11 : Int, u9 = (.tuple #[(.pointer r10), (.slice ra2 rn2 rc2), (.int .i64 r11)]) ∧
  ∀ Jn4 : Bool → Heap → Prop, (∀ (t141 : Bool), ∀ H_20 : Heap, ReelCrash.r6 most K r2 u8 r10 ra2 rn2 rc2 t141 H_20 → Jn4 t141 H_20) →
  ((((((!decide (r11 = 0)) || r10.isNone) || (decide ((rn2 : Int) < r9))) || (decide ((alln : Int) < (rn2 : Int)))) = false) → ((0 : Int) ≤ 0 ∧ (0 : Int) ≤ (rn2 : Int) ∧ (rn2 : Int) ≤ (allc : Int))) ∧
  ((((((!decide (r11 = 0)) || r10.isNone) || (decide ((rn2 : Int) < r9))) || (decide ((alln : Int) < (rn2 : Int)))) = false) →
  CallF Try.prog 35 #[(.slice ra2 rn2 rc2)] H_19 fun u16 H_30 => ∃ ra6 : Option Addr, ∃ rn6 : Nat, ∃ rc6 : Nat, u16 = (.slice ra6 rn6 rc6) ∧
  ∃ r17 : Bool, CallQ Try.prog 34 #[(.slice ra6 rn6 rc6), (.slice (slB alla 0 allc 2) rn2 allc)] H_30 (.bool r17) ∧
  Jn4 (!r17) H_30) ∧
  (¬ (((((!decide (r11 = 0)) || r10.isNone) || (decide ((rn2 : Int) < r9))) || (decide ((alln : Int) < (rn2 : Int)))) = false) →
  Jn4 true H_19))

def ReelCrash.code (most : Int) (callsa : Option Addr) (callsn : Nat) (callsc : Nat) (keep : Int) (H : Heap) (K : Value → Heap → Prop) : Prop :=
  CallF Try.prog 28 #[] H fun u H_ => ∃ r : Bool, u = (.bool r) ∧
  (((!r)) = true →
  K (.bool false) H_) ∧
  (((!r)) = false →
  ∃ r1 : Bool, CallQ Try.prog 36 #[(.slice callsa callsn callsc)] H_ (.bool r1) ∧
  ((((r1 || (decide (most < 64))) || (decide (1048576 < most)))) = true →
  K (.bool true) H_) ∧
  ((((r1 || (decide (most < 64))) || (decide (1048576 < most)))) = false →
  CallF Try.prog 15 #[] H_ fun u1 H_1 => ∃ r2 : Option Addr, u1 = (.pointer r2) ∧
  ((r2.isNone) = true →
  K (.bool false) H_1) ∧
  ((r2.isNone) = false →
  CallF Try.prog 37 #[(.pointer r2), (.int .i64 most)] H_1 fun u2 H_2 => ∃ r3 : Option Addr, ∃ ra : Option Addr, ∃ rn : Nat, ∃ rc : Nat, ∃ r4 : Int, u2 = (.tuple #[(.pointer r3), (.slice ra rn rc), (.int .i64 r4)]) ∧
  ((((!decide (r4 = 0)) || r3.isNone)) = true →
  K (.bool false) H_2) ∧
  ((((!decide (r4 = 0)) || r3.isNone)) = false →
  ∀ (b : Nat) (H_3 : Heap), b = H_2.size → H_3 = H_2.push (.cells #[] 80) →
  ∃ (Inv : (Option Addr) → Nat → Nat → Int → Heap → Prop) (mu : (Option Addr) → Nat → Nat → Int → Heap → Nat), Inv (some ⟨b, 0, none⟩) 0 0 0 H_3 ∧
  ∀ (alla : Option Addr) (alln : Nat) (allc : Nat) (i : Int), ∀ H_4 : Heap, Inv alla alln allc i H_4 → ReelCrash.l7 most callsa callsn keep K r1 r2 r3 r4 Inv mu alla alln allc i H_4))))

def ReelCrash.ann : Ann := (.seq .reg (.seq (.seq .reg (.cond (.seq .reg .no) .no)) (.seq (.seq .reg (.cond (.seq .reg .no) .no)) (.seq .reg (.seq (.seq .reg (.cond (.seq .reg .no) .no)) (.seq .reg (.seq (.seq .reg (.cond (.seq .reg .no) .no)) (.seq .reg (.seq (.seq .reg (.blk (.loop [(11, .one (.slice)), (12, .one (.int .i64))] (.seq (.seq .reg (.cond .no .no)) (.seq (.blk (.seq .reg (.seq .reg (.blk (.seq .reg (.condJ [(11, .one (.slice))] (.seq .reg (.seq .reg (.condJ [(11, .one (.slice))] (.seq (.seq .reg (.cond (.seq .reg .no) .no)) .reg) .no))) (.seq .reg (.condJ [] .reg (.seq .reg (.condJ [] .reg .no)))))))))) .reg))))) (.seq .reg (.seq .reg (.seq .reg (.seq (.seq (.regJ [(141, .one (.bool))]) (.cond (.seq .reg .no) .no)) (.seq .reg (.seq .reg (.seq .reg (.seq (.regJ [(6, .one (.bool))]) .no)))))))))))))))))

theorem ReelCrash.eq (most : Int) (callsa : Option Addr) (callsn : Nat) (callsc : Nat) (keep : Int) (H : Heap) (K : Value → Heap → Prop) : vcFun X Try.f10 ReelCrash.ann [(.int .i64 most), (.slice callsa callsn callsc), (.int .i64 keep)] H K = ReelCrash.code most callsa callsn callsc keep H K := by kernel_rfl

theorem ReelCrash.call {most : Int} {callsa : Option Addr} {callsn : Nat} {callsc : Nat} {keep : Int} {H : Heap} {K : Value → Heap → Prop} (h : ReelCrash.code most callsa callsn callsc keep H K) : CallF Try.prog 10 #[(.int .i64 most), (.slice callsa callsn callsc), (.int .i64 keep)] H K :=
  callF_of_eq (X := X) X_P X_wide X_bodied Try.func10 (ReelCrash.eq most callsa callsn callsc keep H K) h

def ReelOpens.r1 (K : Value → Heap → Prop) (r4 : Option Addr) (r6 : Option Addr) (t67 : Bool) (H_7 : Heap) : Prop :=
  ((t67) = true →
  K (.bool false) H_7) ∧
  ((t67) = false →
  ∃ r8 : Int, (((r4.isNone || r6.isNone) = false) → CallQ Try.prog 42 #[(.pointer r4)] H_7 (.int .i64 r8)) ∧
  (((r4.isNone || r6.isNone) = false) → isA r6) ∧
  ∃ v : Int, (((r4.isNone || r6.isNone) = false) → cellAt H_7 (adrB r6) ((adrO r6) + 2) = some (.int .i64 v)) ∧
  ∃ r9 : Int, ((((r4.isNone || r6.isNone) = false) ∧ (decide (r8 = v)) = true) → CallQ Try.prog 40 #[(.pointer r4)] H_7 (.int .i64 r9)) ∧
  ((((r4.isNone || r6.isNone) = false) ∧ (decide (r8 = v)) = true) → isA r6) ∧
  ∃ v1 : Int, ((((r4.isNone || r6.isNone) = false) ∧ (decide (r8 = v)) = true) → cellAt H_7 (adrB r6) ((adrO r6) + 3) = some (.int .i64 v1)) ∧
  ∃ r10 : Int, ((((r4.isNone || r6.isNone) = false) ∧ ((decide (r8 = v)) && (decide (r9 = v1))) = true) → CallQ Try.prog 41 #[(.pointer r4)] H_7 (.int .i64 r10)) ∧
  ((((r4.isNone || r6.isNone) = false) ∧ ((decide (r8 = v)) && (decide (r9 = v1))) = true) → isA r6) ∧
  ∃ v2 : Int, ((((r4.isNone || r6.isNone) = false) ∧ ((decide (r8 = v)) && (decide (r9 = v1))) = true) → cellAt H_7 (adrB r6) ((adrO r6) + 4) = some (.int .i64 v2)) ∧
  K (.bool ((r4.isNone || r6.isNone) || (((decide (r8 = v)) && (decide (r9 = v1))) && (decide (r10 = v2))))) H_7)

def ReelOpens.l2 (filesa : Option Addr) (filesn : Nat) (most : Int) (K : Value → Heap → Prop) (r1 : Bool) (r2 : Option Addr) (b : Nat) (Inv : Int → Heap → Prop) (mu : Int → Heap → Nat) (i : Int) (H_3 : Heap) : Prop :=
  (((decide (i < (filesn : Int)))) = true →
  ((0 : Int) ≤ i ∧ i < (filesn : Int)) ∧ ∃ b1 o : Nat, (filesa = some ⟨b1, o, none⟩) ∧
  ∃ c0 : Int, ∃ c1 : Int, ∃ c2 : Int, ∃ c3a : Option Addr, ∃ c3n : Nat, ∃ c3c : Nat, cellsAre H_3 b1 (o + i.toNat * 4) [(.int .i64 c0), (.int .i64 c1), (.int .i64 c2), (.slice c3a c3n c3c)] ∧
  CallF Try.prog 16 #[(.pointer r2), (.pointer (some ⟨b, 0, none⟩)), (.agg #[(.int .i64 c0), (.int .i64 c1), (.int .i64 c2), (.slice c3a c3n c3c)])] H_3 fun u2 H_4 => ∃ r3 : Bool, u2 = (.bool r3) ∧
  (((!r3)) = true →
  K (.bool false) H_4) ∧
  (((!r3)) = false →
  Inv (IntKind.i64.wrap (i + 1)) H_4 ∧ mu (IntKind.i64.wrap (i + 1)) H_4 < mu i H_3)) ∧
  (((decide (i < (filesn : Int)))) = false →
  CallF Try.prog 37 #[(.pointer r2), (.int .i64 most)] H_3 fun u3 H_5 => ∃ r4 : Option Addr, ∃ ra : Option Addr, ∃ rn : Nat, ∃ rc : Nat, ∃ r5 : Int, u3 = (.tuple #[(.pointer r4), (.slice ra rn rc), (.int .i64 r5)]) ∧
  CallF Try.prog 38 #[(.pointer (some ⟨b, 0, none⟩)), (.int .i64 most)] H_5 fun u4 H_6 => ∃ r6 : Option Addr, ∃ ra1 : Option Addr, ∃ rn1 : Nat, ∃ rc1 : Nat, ∃ r7 : Int, u4 = (.tuple #[(.pointer r6), (.slice ra1 rn1 rc1), (.int .i64 r7)]) ∧
  ∀ Jn : Bool → Heap → Prop, (∀ (t67 : Bool), ∀ H_7 : Heap, ReelOpens.r1 K r4 r6 t67 H_7 → Jn t67 H_7) →
  (((!decide (r5 = r7)) = false) →
  CallF Try.prog 35 #[(.slice ra rn rc)] H_6 fun u5 H_8 => ∃ ra2 : Option Addr, ∃ rn2 : Nat, ∃ rc2 : Nat, u5 = (.slice ra2 rn2 rc2) ∧
  ∃ r11 : Bool, CallQ Try.prog 34 #[(.slice ra2 rn2 rc2), (.slice ra1 rn1 rc1)] H_8 (.bool r11) ∧
  Jn ((!r11) || (!(r4.isNone == r6.isNone))) H_8) ∧
  (¬ ((!decide (r5 = r7)) = false) →
  Jn (true || (!(r4.isNone == r6.isNone))) H_6))

def ReelOpens.code (filesa : Option Addr) (filesn : Nat) (filesc : Nat) (most : Int) (H : Heap) (K : Value → Heap → Prop) : Prop :=
  CallF Try.prog 28 #[] H fun u H_ => ∃ r : Bool, u = (.bool r) ∧
  (((!r)) = true →
  K (.bool false) H_) ∧
  (((!r)) = false →
  ∃ r1 : Bool, CallQ Try.prog 14 #[(.slice filesa filesn filesc)] H_ (.bool r1) ∧
  ((r1) = true →
  K (.bool true) H_) ∧
  ((r1) = false →
  CallF Try.prog 15 #[] H_ fun u1 H_1 => ∃ r2 : Option Addr, u1 = (.pointer r2) ∧
  ∀ (b : Nat) (H_2 : Heap), b = H_1.size → H_2 = H_1.push (.cells #[(.slice none 0 0), (.int .i64 0)] 30) →
  ((r2.isNone) = true →
  K (.bool false) H_2) ∧
  ((r2.isNone) = false →
  ∃ (Inv : Int → Heap → Prop) (mu : Int → Heap → Nat), Inv 0 H_2 ∧
  ∀ (i : Int), ∀ H_3 : Heap, Inv i H_3 → ReelOpens.l2 filesa filesn most K r1 r2 b Inv mu i H_3)))

def ReelOpens.ann : Ann := (.seq .reg (.seq (.seq .reg (.cond (.seq .reg .no) .no)) (.seq (.seq .reg (.cond (.seq .reg .no) .no)) (.seq .reg (.seq .reg (.seq (.seq .reg (.cond (.seq .reg .no) .no)) (.seq (.seq .reg (.blk (.loop [(7, .one (.int .i64))] (.seq (.seq .reg (.cond .no .no)) (.seq (.blk (.seq .reg (.cond (.seq .reg .no) .no))) .reg))))) (.seq .reg (.seq .reg (.seq (.seq (.regJ [(67, .one (.bool))]) (.cond (.seq .reg .no) .no)) (.seq .reg .no)))))))))))

theorem ReelOpens.eq (filesa : Option Addr) (filesn : Nat) (filesc : Nat) (most : Int) (H : Heap) (K : Value → Heap → Prop) : vcFun X Try.f9 ReelOpens.ann [(.slice filesa filesn filesc), (.int .i64 most)] H K = ReelOpens.code filesa filesn filesc most H K := by kernel_rfl

theorem ReelOpens.call {filesa : Option Addr} {filesn : Nat} {filesc : Nat} {most : Int} {H : Heap} {K : Value → Heap → Prop} (h : ReelOpens.code filesa filesn filesc most H K) : CallF Try.prog 9 #[(.slice filesa filesn filesc), (.int .i64 most)] H K :=
  callF_of_eq (X := X) X_P X_wide X_bodied Try.func9 (ReelOpens.eq filesa filesn filesc most H K) h

def ReelCalls.r1 (K : Value → Heap → Prop) (Inv : (Option Addr) → (Option Addr) → Int → Heap → Prop) (mu : (Option Addr) → (Option Addr) → Int → Heap → Nat) (r7 : Option Addr) (s : Option Addr) (i : Int) (H_5 : Heap) (r8 : Option Addr) (r9 : Option Addr) (t115 : Bool) (H_7 : Heap) : Prop :=
  ((t115) = true →
  K (.bool false) H_7) ∧
  ((t115) = false →
  Inv r8 r9 (IntKind.i64.wrap (i + 1)) H_7 ∧ mu r8 r9 (IntKind.i64.wrap (i + 1)) H_7 < mu r7 s i H_5)

def ReelCalls.l2 (most : Int) (callsa : Option Addr) (callsn : Nat) (K : Value → Heap → Prop) (r1 : Bool) (r2 : Option Addr) (b : Nat) (Inv : (Option Addr) → (Option Addr) → Int → Heap → Prop) (mu : (Option Addr) → (Option Addr) → Int → Heap → Nat) (r7 : Option Addr) (s : Option Addr) (i : Int) (H_5 : Heap) : Prop :=
  (((decide (i < (callsn : Int)))) = true →
  ((0 : Int) ≤ i ∧ i < (callsn : Int)) ∧ ∃ b1 o : Nat, (callsa = some ⟨b1, o, none⟩) ∧
  ∃ c0 : Int, ∃ c1 : Int, ∃ c2 : Int, ∃ c3a : Option Addr, ∃ c3n : Nat, ∃ c3c : Nat, cellsAre H_5 b1 (o + i.toNat * 4) [(.int .i64 c0), (.int .i64 c1), (.int .i64 c2), (.slice c3a c3n c3c)] ∧
  CallF Try.prog 39 #[(.pointer r2), (.pointer (some ⟨b, 0, none⟩)), (.pointer r7), (.pointer s), (.int .i64 most), (.agg #[(.int .i64 c0), (.int .i64 c1), (.int .i64 c2), (.slice c3a c3n c3c)])] H_5 fun u4 H_6 => ∃ r8 : Option Addr, ∃ r9 : Option Addr, ∃ r10 : Bool, u4 = (.tuple #[(.pointer r8), (.pointer r9), (.bool r10)]) ∧
  ∀ Jn : Bool → Heap → Prop, (∀ (t115 : Bool), ∀ H_7 : Heap, ReelCalls.r1 K Inv mu r7 s i H_5 r8 r9 t115 H_7 → Jn t115 H_7) →
  (((!r10) = false) →
  CallF Try.prog 17 #[(.pointer r2), (.pointer (some ⟨b, 0, none⟩))] H_6 fun u5 H_8 => ∃ r11 : Bool, u5 = (.bool r11) ∧
  ∃ r12 : Int, (((!r11) = false) → CallQ Try.prog 40 #[(.pointer r8)] H_8 (.int .i64 r12)) ∧
  (((!r11) = false) → isA r9) ∧
  ∃ v : Int, (((!r11) = false) → cellAt H_8 (adrB r9) ((adrO r9) + 3) = some (.int .i64 v)) ∧
  ∃ r13 : Int, ((((!r11) || (!decide (r12 = v))) = false) → CallQ Try.prog 41 #[(.pointer r8)] H_8 (.int .i64 r13)) ∧
  ((((!r11) || (!decide (r12 = v))) = false) → isA r9) ∧
  ∃ v1 : Int, ((((!r11) || (!decide (r12 = v))) = false) → cellAt H_8 (adrB r9) ((adrO r9) + 4) = some (.int .i64 v1)) ∧
  ∃ r14 : Int, (((((!r11) || (!decide (r12 = v))) || (!decide (r13 = v1))) = false) → CallQ Try.prog 42 #[(.pointer r8)] H_8 (.int .i64 r14)) ∧
  (((((!r11) || (!decide (r12 = v))) || (!decide (r13 = v1))) = false) → isA r9) ∧
  ∃ v2 : Int, (((((!r11) || (!decide (r12 = v))) || (!decide (r13 = v1))) = false) → cellAt H_8 (adrB r9) ((adrO r9) + 2) = some (.int .i64 v2)) ∧
  Jn ((((!r11) || (!decide (r12 = v))) || (!decide (r13 = v1))) || (!decide (r14 = v2))) H_8) ∧
  (¬ ((!r10) = false) →
  ∃ r15 : Int, ((true = false) → CallQ Try.prog 40 #[(.pointer r8)] H_6 (.int .i64 r15)) ∧
  ((true = false) → isA r9) ∧
  ∃ v3 : Int, ((true = false) → cellAt H_6 (adrB r9) ((adrO r9) + 3) = some (.int .i64 v3)) ∧
  ∃ r16 : Int, (((true || (!decide (r15 = v3))) = false) → CallQ Try.prog 41 #[(.pointer r8)] H_6 (.int .i64 r16)) ∧
  (((true || (!decide (r15 = v3))) = false) → isA r9) ∧
  ∃ v4 : Int, (((true || (!decide (r15 = v3))) = false) → cellAt H_6 (adrB r9) ((adrO r9) + 4) = some (.int .i64 v4)) ∧
  ∃ r17 : Int, ((((true || (!decide (r15 = v3))) || (!decide (r16 = v4))) = false) → CallQ Try.prog 42 #[(.pointer r8)] H_6 (.int .i64 r17)) ∧
  ((((true || (!decide (r15 = v3))) || (!decide (r16 = v4))) = false) → isA r9) ∧
  ∃ v5 : Int, ((((true || (!decide (r15 = v3))) || (!decide (r16 = v4))) = false) → cellAt H_6 (adrB r9) ((adrO r9) + 2) = some (.int .i64 v5)) ∧
  Jn (((true || (!decide (r15 = v3))) || (!decide (r16 = v4))) || (!decide (r17 = v5))) H_6)) ∧
  (((decide (i < (callsn : Int)))) = false →
  K (.bool true) H_5)

def ReelCalls.code (most : Int) (callsa : Option Addr) (callsn : Nat) (callsc : Nat) (H : Heap) (K : Value → Heap → Prop) : Prop :=
  CallF Try.prog 28 #[] H fun u H_ => ∃ r : Bool, u = (.bool r) ∧
  (((!r)) = true →
  K (.bool false) H_) ∧
  (((!r)) = false →
  ∃ r1 : Bool, CallQ Try.prog 36 #[(.slice callsa callsn callsc)] H_ (.bool r1) ∧
  ((r1) = true →
  K (.bool true) H_) ∧
  ((r1) = false →
  CallF Try.prog 15 #[] H_ fun u1 H_1 => ∃ r2 : Option Addr, u1 = (.pointer r2) ∧
  ∀ (b : Nat) (H_2 : Heap), b = H_1.size → H_2 = H_1.push (.cells #[(.slice none 0 0), (.int .i64 0)] 30) →
  ((r2.isNone) = true →
  K (.bool false) H_2) ∧
  ((r2.isNone) = false →
  CallF Try.prog 37 #[(.pointer r2), (.int .i64 most)] H_2 fun u2 H_3 => ∃ r3 : Option Addr, ∃ ra : Option Addr, ∃ rn : Nat, ∃ rc : Nat, ∃ r4 : Int, u2 = (.tuple #[(.pointer r3), (.slice ra rn rc), (.int .i64 r4)]) ∧
  CallF Try.prog 38 #[(.pointer (some ⟨b, 0, none⟩)), (.int .i64 most)] H_3 fun u3 H_4 => ∃ r5 : Option Addr, ∃ ra1 : Option Addr, ∃ rn1 : Nat, ∃ rc1 : Nat, ∃ r6 : Int, u3 = (.tuple #[(.pointer r5), (.slice ra1 rn1 rc1), (.int .i64 r6)]) ∧
  (((((!decide (r4 = r6)) || (!decide ((rn : Int) = 0))) || (!(r3.isNone == r5.isNone)))) = true →
  K (.bool false) H_4) ∧
  (((((!decide (r4 = r6)) || (!decide ((rn : Int) = 0))) || (!(r3.isNone == r5.isNone)))) = false →
  (((r3.isNone || r5.isNone)) = true →
  K (.bool true) H_4) ∧
  (((r3.isNone || r5.isNone)) = false →
  ∃ (Inv : (Option Addr) → (Option Addr) → Int → Heap → Prop) (mu : (Option Addr) → (Option Addr) → Int → Heap → Nat), Inv r3 r5 0 H_4 ∧
  ∀ (r7 : Option Addr) (s : Option Addr) (i : Int), ∀ H_5 : Heap, Inv r7 s i H_5 → ReelCalls.l2 most callsa callsn K r1 r2 b Inv mu r7 s i H_5)))))

def ReelCalls.ann : Ann := (.seq .reg (.seq (.seq .reg (.cond (.seq .reg .no) .no)) (.seq (.seq .reg (.cond (.seq .reg .no) .no)) (.seq .reg (.seq .reg (.seq (.seq .reg (.cond (.seq .reg .no) .no)) (.seq .reg (.seq .reg (.seq (.seq .reg (.cond (.seq .reg .no) .no)) (.seq (.seq .reg (.cond (.seq .reg .no) .no)) (.seq (.seq .reg (.blk (.loop [(7, .one (.ptr)), (10, .one (.ptr)), (13, .one (.int .i64))] (.seq (.seq .reg (.cond .no .no)) (.seq (.blk (.seq .reg (.seq (.seq (.regJ [(115, .one (.bool))]) (.cond (.seq .reg .no) .no)) (.seq .reg .reg)))) .reg))))) (.seq .reg .no))))))))))))

theorem ReelCalls.eq (most : Int) (callsa : Option Addr) (callsn : Nat) (callsc : Nat) (H : Heap) (K : Value → Heap → Prop) : vcFun X Try.f8 ReelCalls.ann [(.int .i64 most), (.slice callsa callsn callsc)] H K = ReelCalls.code most callsa callsn callsc H K := by kernel_rfl

theorem ReelCalls.call {most : Int} {callsa : Option Addr} {callsn : Nat} {callsc : Nat} {H : Heap} {K : Value → Heap → Prop} (h : ReelCalls.code most callsa callsn callsc H K) : CallF Try.prog 8 #[(.int .i64 most), (.slice callsa callsn callsc)] H K :=
  callF_of_eq (X := X) X_P X_wide X_bodied Try.func8 (ReelCalls.eq most callsa callsn callsc H K) h

def ReelBytes.l1 (ba : Option Addr) (bc : Nat) (K : Value → Heap → Prop) (ra4 : Option Addr) (rn4 : Nat) (r3 : Int) (Inv : (Option Addr) → Nat → Nat → Int → Heap → Prop) (mu : (Option Addr) → Nat → Nat → Int → Heap → Nat) (alla : Option Addr) (alln : Nat) (allc : Nat) (i : Int) (H_9 : Heap) : Prop :=
  (((decide (i < (rn4 : Int)))) = true →
  ((0 : Int) ≤ i ∧ i < (rn4 : Int)) ∧ ∃ b1 o : Nat, (ra4 = some ⟨b1, o, none⟩) ∧
  ∃ c0 : Int, ∃ c1a : Option Addr, ∃ c1n : Nat, ∃ c1c : Nat, cellsAre H_9 b1 (o + i.toNat * 2) [(.int .i64 c0), (.slice c1a c1n c1c)] ∧
  CallF Try.prog 29 #[(.agg #[(.int .i64 c0), (.slice c1a c1n c1c)])] H_9 fun u7 H_10 => ∃ ra6 : Option Addr, ∃ rn6 : Nat, ∃ rc6 : Nat, ∃ r5 : Int, u7 = (.tuple #[(.slice ra6 rn6 rc6), (.int .i64 r5)]) ∧
  (((!decide (r5 = 0))) = true →
  K (.bool false) H_10) ∧
  (((!decide (r5 = 0))) = false →
  RunW Try.prog (Builtin.append_ #[32, 32] 32 #[(.slice alla alln allc), (.slice ra6 rn6 rc6)]) H_10 fun u8 H_11 =>
  ∃ sa : Option Addr, ∃ sn : Nat, ∃ sc : Nat, u8 = (.slice sa sn sc) ∧
  Inv sa sn sc (IntKind.i64.wrap (i + 1)) H_11 ∧ mu sa sn sc (IntKind.i64.wrap (i + 1)) H_11 < mu alla alln allc i H_9)) ∧
  (((decide (i < (rn4 : Int)))) = false →
  ((0 : Int) ≤ 0 ∧ (0 : Int) ≤ r3 ∧ r3 ≤ (bc : Int)) ∧
  ∃ r6 : Bool, CallQ Try.prog 20 #[(.slice alla alln allc), (.slice (slB ba 0 bc 1) r3.toNat bc)] H_9 (.bool r6) ∧
  K (.bool r6) H_9)

def ReelBytes.r2 (ba : Option Addr) (bc : Nat) (K : Value → Heap → Prop) (ra4 : Option Addr) (rn4 : Nat) (r3 : Int) (t74 : Bool) (H_7 : Heap) : Prop :=
  ((t74) = true →
  K (.bool false) H_7) ∧
  ((t74) = false →
  ∀ (b : Nat) (H_8 : Heap), b = H_7.size → H_8 = H_7.push (.cells #[] 5) →
  ∃ (Inv : (Option Addr) → Nat → Nat → Int → Heap → Prop) (mu : (Option Addr) → Nat → Nat → Int → Heap → Nat), Inv (some ⟨b, 0, none⟩) 0 0 0 H_8 ∧
  ∀ (alla : Option Addr) (alln : Nat) (allc : Nat) (i : Int), ∀ H_9 : Heap, Inv alla alln allc i H_9 → ReelBytes.l1 ba bc K ra4 rn4 r3 Inv mu alla alln allc i H_9)

def ReelBytes.code (kind : Int) (dataa : Option Addr) (datan : Nat) (datac : Nat) (ba : Option Addr) (bn : Nat) (bc : Nat) (H : Heap) (K : Value → Heap → Prop) : Prop :=
  CallF Try.prog 28 #[] H fun u H_ => ∃ r : Bool, u = (.bool r) ∧
  (((!r)) = true →
  K (.bool false) H_) ∧
  (((!r)) = false →
  ((((decide (3000 < (datan : Int))) || (decide (3000 < (bn : Int))))) = true →
  K (.bool true) H_) ∧
  ((((decide (3000 < (datan : Int))) || (decide (3000 < (bn : Int))))) = false →
  CallF Try.prog 30 #[(.slice dataa datan datac)] H_ fun u1 H_1 => ∃ ra : Option Addr, ∃ rn : Nat, ∃ rc : Nat, u1 = (.slice ra rn rc) ∧
  CallF Try.prog 29 #[(.agg #[(.int .i64 kind), (.slice ra rn rc)])] H_1 fun u2 H_2 => ∃ ra1 : Option Addr, ∃ rn1 : Nat, ∃ rc1 : Nat, ∃ r1 : Int, u2 = (.tuple #[(.slice ra1 rn1 rc1), (.int .i64 r1)]) ∧
  CallF Try.prog 31 #[(.int .i64 kind), (.slice dataa datan datac)] H_2 fun u3 H_3 => ∃ ra2 : Option Addr, ∃ rn2 : Nat, ∃ rc2 : Nat, ∃ r2 : Int, u3 = (.tuple #[(.slice ra2 rn2 rc2), (.int .i64 r2)]) ∧
  CallF Try.prog 30 #[(.slice ba bn bc)] H_3 fun u4 H_4 => ∃ ra3 : Option Addr, ∃ rn3 : Nat, ∃ rc3 : Nat, u4 = (.slice ra3 rn3 rc3) ∧
  CallF Try.prog 32 #[(.slice ra3 rn3 rc3)] H_4 fun u5 H_5 => ∃ ra4 : Option Addr, ∃ rn4 : Nat, ∃ rc4 : Nat, ∃ r3 : Int, u5 = (.tuple #[(.slice ra4 rn4 rc4), (.int .i64 r3)]) ∧
  CallF Try.prog 33 #[(.slice ba bn bc)] H_5 fun u6 H_6 => ∃ ra5 : Option Addr, ∃ rn5 : Nat, ∃ rc5 : Nat, ∃ r4 : Int, u6 = (.tuple #[(.slice ra5 rn5 rc5), (.int .i64 r4)]) ∧
  ∀ Jn : Bool → Heap → Prop, (∀ (t74 : Bool), ∀ H_7 : Heap, ReelBytes.r2 ba bc K ra4 rn4 r3 t74 H_7 → Jn t74 H_7) →
  ∃ r7 : Bool, (((!decide (r1 = r2)) = false) → CallQ Try.prog 20 #[(.slice ra1 rn1 rc1), (.slice ra2 rn2 rc2)] H_6 (.bool r7)) ∧
  (((((!decide (r1 = r2)) || (!r7)) || (!decide (r3 = r4))) = false) →
  CallF Try.prog 35 #[(.slice ra4 rn4 rc4)] H_6 fun u9 H_12 => ∃ ra7 : Option Addr, ∃ rn7 : Nat, ∃ rc7 : Nat, u9 = (.slice ra7 rn7 rc7) ∧
  ∃ r8 : Bool, CallQ Try.prog 34 #[(.slice ra7 rn7 rc7), (.slice ra5 rn5 rc5)] H_12 (.bool r8) ∧
  Jn (!r8) H_12) ∧
  (¬ ((((!decide (r1 = r2)) || (!r7)) || (!decide (r3 = r4))) = false) →
  Jn true H_6)))

def ReelBytes.ann : Ann := (.seq .reg (.seq (.seq .reg (.cond (.seq .reg .no) .no)) (.seq (.seq .reg (.cond (.seq .reg .no) .no)) (.seq .reg (.seq .reg (.seq .reg (.seq .reg (.seq (.seq (.regJ [(74, .one (.bool))]) (.cond (.seq .reg .no) .no)) (.seq .reg (.seq (.seq .reg (.blk (.loop [(15, .one (.slice)), (16, .one (.int .i64))] (.seq (.seq .reg (.cond .no .no)) (.seq (.blk (.seq .reg (.seq (.seq .reg (.cond (.seq .reg .no) .no)) .reg))) .reg))))) (.seq .reg .no)))))))))))

theorem ReelBytes.eq (kind : Int) (dataa : Option Addr) (datan : Nat) (datac : Nat) (ba : Option Addr) (bn : Nat) (bc : Nat) (H : Heap) (K : Value → Heap → Prop) : vcFun X Try.f7 ReelBytes.ann [(.int .i64 kind), (.slice dataa datan datac), (.slice ba bn bc)] H K = ReelBytes.code kind dataa datan datac ba bn bc H K := by kernel_rfl

theorem ReelBytes.call {kind : Int} {dataa : Option Addr} {datan : Nat} {datac : Nat} {ba : Option Addr} {bn : Nat} {bc : Nat} {H : Heap} {K : Value → Heap → Prop} (h : ReelBytes.code kind dataa datan datac ba bn bc H K) : CallF Try.prog 7 #[(.int .i64 kind), (.slice dataa datan datac), (.slice ba bn bc)] H K :=
  callF_of_eq (X := X) X_P X_wide X_bodied Try.func7 (ReelBytes.eq kind dataa datan datac ba bn bc H K) h

end Go.Proofs.Ytomdcdfcdeaabaa
