import Derived.Test.YtomdcdfcdeaabaaGreatT1
set_option maxRecDepth 100000
set_option linter.unusedVariables false
namespace Go.Proofs.YtomdcdfcdeaabaaGreat
open Go Go.Nm Go.Proofs

def code_first.l1 (ba : Option Addr) (bn : Nat) (K : Value → Heap → Prop) (Inv : Int → Int → Heap → Prop) (mu : Int → Int → Heap → Nat) (u : Int) (t10 : Int) (H_ : Heap) : Prop :=
  (((decide (t10 < (bn : Int)))) = true →
  ((0 : Int) ≤ t10 ∧ t10 < (bn : Int)) ∧ ∃ b o : Nat, (ba = some ⟨b, o, none⟩) ∧
  ∃ v : Int, cellAt H_ b (o + t10.toNat) = some (.int .u8 v) ∧
  (((((decide (v = 0)) && (decide (0 < t10))) || ((decide (1 < v)) && (decide (t10 = 9))))) = true →
  K (.tuple #[(.int .u64 0), (.int .i64 0), (.int .i64 10)]) H_) ∧
  (((((decide (v = 0)) && (decide (0 < t10))) || ((decide (1 < v)) && (decide (t10 = 9))))) = false →
  ((128 : Int) ≠ 0) ∧
  ((0 : Int) ≤ (IntKind.i64.wrap (7 * t10))) ∧
  (((decide (v < 128))) = true →
  K (.tuple #[(.int .u64 (bitsV .or .u64 u (IntKind.u64.wrap ((IntKind.u64.wrap (Int.tmod v 128)) * 2 ^ (min (Int.toNat (IntKind.i64.wrap (7 * t10))) (IntKind.u64.bits)))))), (.int .i64 (IntKind.i64.wrap (t10 + 1))), (.int .i64 0)]) H_) ∧
  (((decide (v < 128))) = false →
  Inv (bitsV .or .u64 u (IntKind.u64.wrap ((IntKind.u64.wrap (Int.tmod v 128)) * 2 ^ (min (Int.toNat (IntKind.i64.wrap (7 * t10))) (IntKind.u64.bits))))) (IntKind.i64.wrap (t10 + 1)) H_ ∧ mu (bitsV .or .u64 u (IntKind.u64.wrap ((IntKind.u64.wrap (Int.tmod v 128)) * 2 ^ (min (Int.toNat (IntKind.i64.wrap (7 * t10))) (IntKind.u64.bits))))) (IntKind.i64.wrap (t10 + 1)) H_ < mu u t10 H_))) ∧
  (((decide (t10 < (bn : Int)))) = false →
  K (.tuple #[(.int .u64 0), (.int .i64 0), (.int .i64 15)]) H_)

def code_first.code (ba : Option Addr) (bn : Nat) (bc : Nat) (H : Heap) (K : Value → Heap → Prop) : Prop :=
  ∃ (Inv : Int → Int → Heap → Prop) (mu : Int → Int → Heap → Nat), Inv 0 0 H ∧
  ∀ (u : Int) (t10 : Int), ∀ H_ : Heap, Inv u t10 H_ → code_first.l1 ba bn K Inv mu u t10 H_

def code_first.ann : Ann := (.seq .reg (.seq .reg (.seq (.seq .reg (.blk (.loop [(5, .one (.int .u64)), (10, .one (.int .i64))] (.seq .reg (.seq (.cond .no .no) (.seq (.blk (.seq .reg (.seq (.seq .reg (.cond (.seq .reg .no) .no)) (.seq .reg (.seq .reg (.cond (.seq .reg .no) .no)))))) .reg)))))) (.seq .reg .no))))

theorem code_first.eq (ba : Option Addr) (bn : Nat) (bc : Nat) (H : Heap) (K : Value → Heap → Prop) : vcFun X Tryz.f95 code_first.ann [(.slice ba bn bc)] H K = code_first.code ba bn bc H K := by kernel_rfl

theorem code_first.call {ba : Option Addr} {bn : Nat} {bc : Nat} {H : Heap} {K : Value → Heap → Prop} (h : code_first.code ba bn bc H K) : CallF Tryz.prog 95 #[(.slice ba bn bc)] H K :=
  callF_of_eq (X := X) X_P X_wide X_bodied Tryz.func95 (code_first.eq ba bn bc H K) h

def R07_Open.l1 (ba : Option Addr) (bn : Nat) (K : Value → Heap → Prop) (ra : Option Addr) (rn : Nat) (rc : Nat) (Inv : Int → Heap → Prop) (mu : Int → Heap → Nat) (i : Int) (H_1 : Heap) : Prop :=
  (((decide (i < (IntKind.i64.wrap ((IntKind.i64.wrap ((bn : Int) - 4)) + 4))))) = true →
  ((0 : Int) ≤ i ∧ i < (rn : Int)) ∧ ∃ b o : Nat, (ra = some ⟨b, o, none⟩) ∧
  ∃ v : Int, cellAt H_1 b (o + i.toNat) = some (.int .u8 v) ∧
  ((0 : Int) ≤ i ∧ i < (bn : Int)) ∧ ∃ b1 o1 : Nat, (ba = some ⟨b1, o1, none⟩) ∧
  ∃ v1 : Int, cellAt H_1 b1 (o1 + i.toNat) = some (.int .u8 v1) ∧
  (((!decide (v = v1))) = true →
  K (.tuple #[(.slice none 0 0), (.int .i64 14)]) H_1) ∧
  (((!decide (v = v1))) = false →
  Inv (IntKind.i64.wrap (i + 1)) H_1 ∧ mu (IntKind.i64.wrap (i + 1)) H_1 < mu i H_1)) ∧
  (((decide (i < (IntKind.i64.wrap ((IntKind.i64.wrap ((bn : Int) - 4)) + 4))))) = false →
  ((0 : Int) ≤ 0 ∧ (0 : Int) ≤ (IntKind.i64.wrap ((bn : Int) - 4)) ∧ (IntKind.i64.wrap ((bn : Int) - 4)) ≤ (rc : Int)) ∧
  K (.tuple #[(.slice (slB ra 0 rc 1) ((IntKind.i64.wrap ((bn : Int) - 4)).toNat) rc), (.int .i64 0)]) H_1)

def R07_Open.code (ba : Option Addr) (bn : Nat) (bc : Nat) (H : Heap) (K : Value → Heap → Prop) : Prop :=
  (((decide ((IntKind.i64.wrap ((bn : Int) - 4)) < 0))) = true →
  K (.tuple #[(.slice none 0 0), (.int .i64 15)]) H) ∧
  (((decide ((IntKind.i64.wrap ((bn : Int) - 4)) < 0))) = false →
  ((0 : Int) ≤ 0 ∧ (0 : Int) ≤ (IntKind.i64.wrap ((bn : Int) - 4)) ∧ (IntKind.i64.wrap ((bn : Int) - 4)) ≤ (bc : Int)) ∧
  CallF Tryz.prog 79 #[(.slice (slB ba 0 bc 1) ((IntKind.i64.wrap ((bn : Int) - 4)).toNat) bc)] H fun u H_ => ∃ ra : Option Addr, ∃ rn : Nat, ∃ rc : Nat, u = (.slice ra rn rc) ∧
  ∃ (Inv : Int → Heap → Prop) (mu : Int → Heap → Nat), Inv (IntKind.i64.wrap ((bn : Int) - 4)) H_ ∧
  ∀ (i : Int), ∀ H_1 : Heap, Inv i H_1 → R07_Open.l1 ba bn K ra rn rc Inv mu i H_1)

def R07_Open.ann : Ann := (.seq .reg (.seq .reg (.seq (.seq .reg (.cond (.seq .reg .no) .no)) (.seq .reg (.seq (.seq .reg (.blk (.loop [(6, .one (.int .i64))] (.seq (.seq .reg (.cond .no .no)) (.seq (.blk (.seq .reg (.cond (.seq .reg .no) .no))) .reg))))) (.seq .reg .no))))))

theorem R07_Open.eq (ba : Option Addr) (bn : Nat) (bc : Nat) (H : Heap) (K : Value → Heap → Prop) : vcFun X Tryz.f98 R07_Open.ann [(.slice ba bn bc)] H K = R07_Open.code ba bn bc H K := by kernel_rfl

theorem R07_Open.call {ba : Option Addr} {bn : Nat} {bc : Nat} {H : Heap} {K : Value → Heap → Prop} (h : R07_Open.code ba bn bc H K) : CallF Tryz.prog 98 #[(.slice ba bn bc)] H K :=
  callF_of_eq (X := X) X_P X_wide X_bodied Tryz.func98 (R07_Open.eq ba bn bc H K) h

def R06_Reader_Uint.l1 (rb : Nat) (ro : Nat) (K : Value → Heap → Prop) (Inv : Int → Int → Heap → Prop) (mu : Int → Int → Heap → Nat) (v1 : Int) (i : Int) (H_ : Heap) : Prop :=
  (((decide (i < 10))) = true →
  ∃ va : Option Addr, ∃ vn : Nat, ∃ vc : Nat, cellAt H_ rb ro = some (.slice va vn vc) ∧
  (((decide ((vn : Int) ≤ i))) = true →
  canSet H_ rb (ro + 1) [(.int .i64 15)] ∧
  ∀ H_1 : Heap, H_1 = setAll H_ rb (ro + 1) [(.int .i64 15)] →
  K (.int .u64 0) H_1) ∧
  (((decide ((vn : Int) ≤ i))) = false →
  ∃ va1 : Option Addr, ∃ vn1 : Nat, ∃ vc1 : Nat, cellAt H_ rb ro = some (.slice va1 vn1 vc1) ∧
  ((0 : Int) ≤ i ∧ i < (vn1 : Int)) ∧ ∃ b o : Nat, (va1 = some ⟨b, o, none⟩) ∧
  ∃ v2 : Int, cellAt H_ b (o + i.toNat) = some (.int .u8 v2) ∧
  (((((decide (i = 9)) && (decide (1 < v2))) || ((decide (0 < i)) && (decide (v2 = 0))))) = true →
  canSet H_ rb (ro + 1) [(.int .i64 10)] ∧
  ∀ H_2 : Heap, H_2 = setAll H_ rb (ro + 1) [(.int .i64 10)] →
  K (.int .u64 0) H_2) ∧
  (((((decide (i = 9)) && (decide (1 < v2))) || ((decide (0 < i)) && (decide (v2 = 0))))) = false →
  ((128 : Int) ≠ 0) ∧
  ((0 : Int) ≤ (IntKind.u64.wrap (IntKind.i64.wrap (7 * i)))) ∧
  (((decide (v2 < 128))) = true →
  ∃ va2 : Option Addr, ∃ vn2 : Nat, ∃ vc2 : Nat, cellAt H_ rb ro = some (.slice va2 vn2 vc2) ∧
  ((0 : Int) ≤ (IntKind.i64.wrap (i + 1)) ∧ (IntKind.i64.wrap (i + 1)) ≤ (vn2 : Int) ∧ (vn2 : Int) ≤ (vc2 : Int)) ∧
  canSet H_ rb ro [(.slice (slB va2 ((IntKind.i64.wrap (i + 1)).toNat) vc2 1) (vn2 - ((IntKind.i64.wrap (i + 1)).toNat)) (vc2 - ((IntKind.i64.wrap (i + 1)).toNat)))] ∧
  ∀ H_3 : Heap, H_3 = setAll H_ rb ro [(.slice (slB va2 ((IntKind.i64.wrap (i + 1)).toNat) vc2 1) (vn2 - ((IntKind.i64.wrap (i + 1)).toNat)) (vc2 - ((IntKind.i64.wrap (i + 1)).toNat)))] →
  K (.int .u64 (IntKind.u64.wrap (v1 + (IntKind.u64.wrap ((IntKind.u64.wrap (Int.tmod v2 128)) * 2 ^ (min (Int.toNat (IntKind.u64.wrap (IntKind.i64.wrap (7 * i)))) (IntKind.u64.bits))))))) H_3) ∧
  (((decide (v2 < 128))) = false →
  Inv (IntKind.u64.wrap (v1 + (IntKind.u64.wrap ((IntKind.u64.wrap (Int.tmod v2 128)) * 2 ^ (min (Int.toNat (IntKind.u64.wrap (IntKind.i64.wrap (7 * i)))) (IntKind.u64.bits)))))) (IntKind.i64.wrap (i + 1)) H_ ∧ mu (IntKind.u64.wrap (v1 + (IntKind.u64.wrap ((IntKind.u64.wrap (Int.tmod v2 128)) * 2 ^ (min (Int.toNat (IntKind.u64.wrap (IntKind.i64.wrap (7 * i)))) (IntKind.u64.bits)))))) (IntKind.i64.wrap (i + 1)) H_ < mu v1 i H_)))) ∧
  (((decide (i < 10))) = false →
  K (.int .u64 0) H_)

def R06_Reader_Uint.code (rb : Nat) (ro : Nat) (H : Heap) (K : Value → Heap → Prop) : Prop :=
  ∃ v : Int, cellAt H rb (ro + 1) = some (.int .i64 v) ∧
  (((!decide (v = 0))) = true →
  K (.int .u64 0) H) ∧
  (((!decide (v = 0))) = false →
  ∃ (Inv : Int → Int → Heap → Prop) (mu : Int → Int → Heap → Nat), Inv 0 0 H ∧
  ∀ (v1 : Int) (i : Int), ∀ H_ : Heap, Inv v1 i H_ → R06_Reader_Uint.l1 rb ro K Inv mu v1 i H_)

def R06_Reader_Uint.ann : Ann := (.seq .reg (.seq (.seq .reg (.cond (.seq .reg .no) .no)) (.seq .reg (.seq (.seq .reg (.blk (.loop [(3, .one (.int .u64)), (4, .one (.int .i64))] (.seq (.seq .reg (.cond .no .no)) (.seq (.blk (.seq (.seq .reg (.cond (.seq .reg (.seq .reg .no)) .no)) (.seq .reg (.seq (.seq .reg (.cond (.seq .reg (.seq .reg .no)) .no)) (.seq .reg (.seq .reg (.cond (.seq .reg (.seq .reg .no)) .no))))))) .reg))))) (.seq .reg .no)))))

theorem R06_Reader_Uint.eq (rb : Nat) (ro : Nat) (H : Heap) (K : Value → Heap → Prop) : vcFun X Tryz.f97 R06_Reader_Uint.ann [(.pointer (some ⟨rb, ro, none⟩))] H K = R06_Reader_Uint.code rb ro H K := by kernel_rfl

theorem R06_Reader_Uint.call {rb : Nat} {ro : Nat} {H : Heap} {K : Value → Heap → Prop} (h : R06_Reader_Uint.code rb ro H K) : CallF Tryz.prog 97 #[(.pointer (some ⟨rb, ro, none⟩))] H K :=
  callF_of_eq (X := X) X_P X_wide X_bodied Tryz.func97 (R06_Reader_Uint.eq rb ro H K) h

def R06_New.code (ba : Option Addr) (bn : Nat) (bc : Nat) (H : Heap) (K : Value → Heap → Prop) : Prop :=
  ∀ (b : Nat) (H_ : Heap), b = H.size → H_ = H.push (.cells #[(.slice ba bn bc), (.int .i64 0)] 163) →
  K (.pointer (some ⟨b, 0, none⟩)) H_

def R06_New.ann : Ann := (.seq .reg (.seq .reg .no))

theorem R06_New.eq (ba : Option Addr) (bn : Nat) (bc : Nat) (H : Heap) (K : Value → Heap → Prop) : vcFun X Tryz.f96 R06_New.ann [(.slice ba bn bc)] H K = R06_New.code ba bn bc H K := by kernel_rfl

theorem R06_New.call {ba : Option Addr} {bn : Nat} {bc : Nat} {H : Heap} {K : Value → Heap → Prop} (h : R06_New.code ba bn bc H K) : CallF Tryz.prog 96 #[(.slice ba bn bc)] H K :=
  callF_of_eq (X := X) X_P X_wide X_bodied Tryz.func96 (R06_New.eq ba bn bc H K) h

def slices_Clone_byte.code (sa : Option Addr) (sn : Nat) (sc : Nat) (H : Heap) (K : Value → Heap → Prop) : Prop :=
  ((sa.isNone) = true →
  K (.slice none 0 0) H) ∧
  ((sa.isNone) = false →
  ∀ (b : Nat) (H_ : Heap), b = H.size → H_ = H.push (.cells #[] 5) →
  RunW Tryz.prog (Builtin.append_ #[32, 32] 32 #[(.slice (some ⟨b, 0, none⟩) 0 0), (.slice sa sn sc)]) H_ fun u H_1 =>
  ∃ sa1 : Option Addr, ∃ sn1 : Nat, ∃ sc1 : Nat, u = (.slice sa1 sn1 sc1) ∧
  K (.slice sa1 sn1 sc1) H_1)

def slices_Clone_byte.ann : Ann := (.seq .reg (.seq (.seq .reg (.cond (.seq .reg .no) .no)) (.seq .reg .no)))

theorem slices_Clone_byte.eq (sa : Option Addr) (sn : Nat) (sc : Nat) (H : Heap) (K : Value → Heap → Prop) : vcFun X Tryz.f77 slices_Clone_byte.ann [(.slice sa sn sc)] H K = slices_Clone_byte.code sa sn sc H K := by kernel_rfl

theorem slices_Clone_byte.call {sa : Option Addr} {sn : Nat} {sc : Nat} {H : Heap} {K : Value → Heap → Prop} (h : slices_Clone_byte.code sa sn sc H K) : CallF Tryz.prog 77 #[(.slice sa sn sc)] H K :=
  callF_of_eq (X := X) X_P X_wide X_bodied Tryz.func77 (slices_Clone_byte.eq sa sn sc H K) h

def code_Reader_Count.code (rb : Nat) (ro : Nat) (most : Int) (H : Heap) (K : Value → Heap → Prop) : Prop :=
  ∃ va : Option Addr, ∃ vn : Nat, ∃ vc : Nat, cellAt H rb ro = some (.slice va vn vc) ∧
  ∃ r : Int, ∃ r1 : Int, ∃ r2 : Int, CallQ Tryz.prog 73 #[(.slice va vn vc), (.int .i64 most)] H (.tuple #[(.int .i64 r), (.int .i64 r1), (.int .i64 r2)]) ∧
  CallF Tryz.prog 74 #[(.pointer (some ⟨rb, ro, none⟩)), (.int .i64 r1), (.int .i64 r2)] H fun u H_ => ∃ r3 : Bool, u = (.bool r3) ∧
  (((!r3)) = true →
  K (.int .i64 0) H_) ∧
  (((!r3)) = false →
  K (.int .i64 r) H_)

def code_Reader_Count.ann : Ann := (.seq .reg (.seq .reg (.seq (.seq .reg (.cond (.seq .reg .no) .no)) (.seq .reg .no))))

theorem code_Reader_Count.eq (rb : Nat) (ro : Nat) (most : Int) (H : Heap) (K : Value → Heap → Prop) : vcFun X Tryz.f76 code_Reader_Count.ann [(.pointer (some ⟨rb, ro, none⟩)), (.int .i64 most)] H K = code_Reader_Count.code rb ro most H K := by kernel_rfl

theorem code_Reader_Count.call {rb : Nat} {ro : Nat} {most : Int} {H : Heap} {K : Value → Heap → Prop} (h : code_Reader_Count.code rb ro most H K) : CallF Tryz.prog 76 #[(.pointer (some ⟨rb, ro, none⟩)), (.int .i64 most)] H K :=
  callF_of_eq (X := X) X_P X_wide X_bodied Tryz.func76 (code_Reader_Count.eq rb ro most H K) h

def crc_Open.code (ba : Option Addr) (bn : Nat) (bc : Nat) (H : Heap) (K : Value → Heap → Prop) : Prop :=
  (((decide ((bn : Int) < 4))) = true →
  K (.tuple #[(.slice none 0 0), (.int .i64 15)]) H) ∧
  (((decide ((bn : Int) < 4))) = false →
  ((0 : Int) ≤ 0 ∧ (0 : Int) ≤ (IntKind.i64.wrap ((bn : Int) - 4)) ∧ (IntKind.i64.wrap ((bn : Int) - 4)) ≤ (bc : Int)) ∧
  ((0 : Int) ≤ (IntKind.i64.wrap ((bn : Int) - 4)) ∧ (IntKind.i64.wrap ((bn : Int) - 4)) ≤ (bn : Int) ∧ (bn : Int) ≤ (bc : Int)) ∧
  ((0 : Int) ≤ 0 ∧ 0 < ((bn - ((IntKind.i64.wrap ((bn : Int) - 4)).toNat) : Nat) : Int)) ∧ ∃ b o : Nat, ((slB ba ((IntKind.i64.wrap ((bn : Int) - 4)).toNat) bc 1) = some ⟨b, o, none⟩) ∧
  ∃ v : Int, cellAt H b (o + 0) = some (.int .u8 v) ∧
  ((0 : Int) ≤ 1 ∧ 1 < ((bn - ((IntKind.i64.wrap ((bn : Int) - 4)).toNat) : Nat) : Int)) ∧ ∃ b1 o1 : Nat, ((slB ba ((IntKind.i64.wrap ((bn : Int) - 4)).toNat) bc 1) = some ⟨b1, o1, none⟩) ∧
  ∃ v1 : Int, cellAt H b1 (o1 + 1) = some (.int .u8 v1) ∧
  ((0 : Int) ≤ 8) ∧
  ((0 : Int) ≤ 2 ∧ 2 < ((bn - ((IntKind.i64.wrap ((bn : Int) - 4)).toNat) : Nat) : Int)) ∧ ∃ b2 o2 : Nat, ((slB ba ((IntKind.i64.wrap ((bn : Int) - 4)).toNat) bc 1) = some ⟨b2, o2, none⟩) ∧
  ∃ v2 : Int, cellAt H b2 (o2 + 2) = some (.int .u8 v2) ∧
  ((0 : Int) ≤ 16) ∧
  ((0 : Int) ≤ 3 ∧ 3 < ((bn - ((IntKind.i64.wrap ((bn : Int) - 4)).toNat) : Nat) : Int)) ∧ ∃ b3 o3 : Nat, ((slB ba ((IntKind.i64.wrap ((bn : Int) - 4)).toNat) bc 1) = some ⟨b3, o3, none⟩) ∧
  ∃ v3 : Int, cellAt H b3 (o3 + 3) = some (.int .u8 v3) ∧
  ((0 : Int) ≤ 24) ∧
  ∀ (b4 : Nat) (H_ : Heap), b4 = H.size → H_ = H.push (.cells #[(.slice (slB ba 0 bc 1) ((IntKind.i64.wrap ((bn : Int) - 4)).toNat) bc)] 32) →
  ∃ r : Int, CallQ Tryz.prog 92 #[(.slice (some ⟨b4, 0, none⟩) 1 1)] H_ (.int .u32 r) ∧
  (((!decide ((bitsV .or .u32 (bitsV .or .u32 (bitsV .or .u32 (IntKind.u32.wrap v) (IntKind.u32.wrap ((IntKind.u32.wrap v1) * 2 ^ (min (Int.toNat 8) (IntKind.u32.bits))))) (IntKind.u32.wrap ((IntKind.u32.wrap v2) * 2 ^ (min (Int.toNat 16) (IntKind.u32.bits))))) (IntKind.u32.wrap ((IntKind.u32.wrap v3) * 2 ^ (min (Int.toNat 24) (IntKind.u32.bits))))) = r))) = true →
  K (.tuple #[(.slice none 0 0), (.int .i64 14)]) H_) ∧
  (((!decide ((bitsV .or .u32 (bitsV .or .u32 (bitsV .or .u32 (IntKind.u32.wrap v) (IntKind.u32.wrap ((IntKind.u32.wrap v1) * 2 ^ (min (Int.toNat 8) (IntKind.u32.bits))))) (IntKind.u32.wrap ((IntKind.u32.wrap v2) * 2 ^ (min (Int.toNat 16) (IntKind.u32.bits))))) (IntKind.u32.wrap ((IntKind.u32.wrap v3) * 2 ^ (min (Int.toNat 24) (IntKind.u32.bits))))) = r))) = false →
  CallF Tryz.prog 53 #[(.slice (slB ba 0 bc 1) ((IntKind.i64.wrap ((bn : Int) - 4)).toNat) bc)] H_ fun u H_1 => ∃ ra : Option Addr, ∃ rn : Nat, ∃ rc : Nat, u = (.slice ra rn rc) ∧
  K (.tuple #[(.slice ra rn rc), (.int .i64 0)]) H_1))

def crc_Open.ann : Ann := (.seq .reg (.seq (.seq .reg (.cond (.seq .reg .no) .no)) (.seq .reg (.seq .reg (.seq (.seq .reg (.cond (.seq .reg .no) .no)) (.seq .reg .no))))))

theorem crc_Open.eq (ba : Option Addr) (bn : Nat) (bc : Nat) (H : Heap) (K : Value → Heap → Prop) : vcFun X Tryz.f75 crc_Open.ann [(.slice ba bn bc)] H K = crc_Open.code ba bn bc H K := by kernel_rfl

theorem crc_Open.call {ba : Option Addr} {bn : Nat} {bc : Nat} {H : Heap} {K : Value → Heap → Prop} (h : crc_Open.code ba bn bc H K) : CallF Tryz.prog 75 #[(.slice ba bn bc)] H K :=
  callF_of_eq (X := X) X_P X_wide X_bodied Tryz.func75 (crc_Open.eq ba bn bc H K) h

def code_Reader_take.code (rb : Nat) (ro : Nat) (size : Int) (err : Int) (H : Heap) (K : Value → Heap → Prop) : Prop :=
  ∃ v : Int, cellAt H rb (ro + 1) = some (.int .i64 v) ∧
  (((!decide (v = 0))) = true →
  K (.bool false) H) ∧
  (((!decide (v = 0))) = false →
  (((!decide (err = 0))) = true →
  canSet H rb (ro + 1) [(.int .i64 err)] ∧
  ∀ H_ : Heap, H_ = setAll H rb (ro + 1) [(.int .i64 err)] →
  K (.bool false) H_) ∧
  (((!decide (err = 0))) = false →
  ∃ va : Option Addr, ∃ vn : Nat, ∃ vc : Nat, cellAt H rb ro = some (.slice va vn vc) ∧
  ((0 : Int) ≤ size ∧ size ≤ (vn : Int) ∧ (vn : Int) ≤ (vc : Int)) ∧
  canSet H rb ro [(.slice (slB va size.toNat vc 1) (vn - size.toNat) (vc - size.toNat))] ∧
  ∀ H_1 : Heap, H_1 = setAll H rb ro [(.slice (slB va size.toNat vc 1) (vn - size.toNat) (vc - size.toNat))] →
  K (.bool true) H_1))

def code_Reader_take.ann : Ann := (.seq .reg (.seq (.seq .reg (.cond (.seq .reg .no) .no)) (.seq (.seq .reg (.cond (.seq .reg (.seq .reg .no)) .no)) (.seq .reg (.seq .reg .no)))))

theorem code_Reader_take.eq (rb : Nat) (ro : Nat) (size : Int) (err : Int) (H : Heap) (K : Value → Heap → Prop) : vcFun X Tryz.f74 code_Reader_take.ann [(.pointer (some ⟨rb, ro, none⟩)), (.int .i64 size), (.int .i64 err)] H K = code_Reader_take.code rb ro size err H K := by kernel_rfl

theorem code_Reader_take.call {rb : Nat} {ro : Nat} {size : Int} {err : Int} {H : Heap} {K : Value → Heap → Prop} (h : code_Reader_take.code rb ro size err H K) : CallF Tryz.prog 74 #[(.pointer (some ⟨rb, ro, none⟩)), (.int .i64 size), (.int .i64 err)] H K :=
  callF_of_eq (X := X) X_P X_wide X_bodied Tryz.func74 (code_Reader_take.eq rb ro size err H K) h

def code_count.code (ba : Option Addr) (bn : Nat) (bc : Nat) (most : Int) (H : Heap) (K : Value → Heap → Prop) : Prop :=
  ∃ r : Int, ∃ r1 : Int, ∃ r2 : Int, CallQ Tryz.prog 95 #[(.slice ba bn bc)] H (.tuple #[(.int .u64 r), (.int .i64 r1), (.int .i64 r2)]) ∧
  (((!decide (r2 = 0))) = true →
  K (.tuple #[(.int .i64 0), (.int .i64 0), (.int .i64 r2)]) H) ∧
  (((!decide (r2 = 0))) = false →
  (((decide ((IntKind.u64.wrap (if 0 > most then 0 else most)) < r))) = true →
  K (.tuple #[(.int .i64 0), (.int .i64 0), (.int .i64 17)]) H) ∧
  (((decide ((IntKind.u64.wrap (if 0 > most then 0 else most)) < r))) = false →
  K (.tuple #[(.int .i64 (IntKind.i64.wrap r)), (.int .i64 r1), (.int .i64 0)]) H))

def code_count.ann : Ann := (.seq .reg (.seq .reg (.seq (.seq .reg (.cond (.seq .reg .no) .no)) (.seq (.seq .reg (.cond (.seq .reg .no) .no)) (.seq .reg .no)))))

theorem code_count.eq (ba : Option Addr) (bn : Nat) (bc : Nat) (most : Int) (H : Heap) (K : Value → Heap → Prop) : vcFun X Tryz.f73 code_count.ann [(.slice ba bn bc), (.int .i64 most)] H K = code_count.code ba bn bc most H K := by kernel_rfl

theorem code_count.call {ba : Option Addr} {bn : Nat} {bc : Nat} {most : Int} {H : Heap} {K : Value → Heap → Prop} (h : code_count.code ba bn bc most H K) : CallF Tryz.prog 73 #[(.slice ba bn bc), (.int .i64 most)] H K :=
  callF_of_eq (X := X) X_P X_wide X_bodied Tryz.func73 (code_count.eq ba bn bc most H K) h

def R07_Sum.r1 (Inv1 : Int → Int → Heap → Prop) (mu1 : Int → Int → Heap → Nat) (s1 : Int) (k : Int) (H_1 : Heap) (s2 : Int) (H_2 : Heap) : Prop :=
  Inv1 s2 (IntKind.i64.wrap (k + 1)) H_2 ∧ mu1 s2 (IntKind.i64.wrap (k + 1)) H_2 < mu1 s1 k H_1

def R07_Sum.l2 (Inv : Int → Int → Heap → Prop) (mu : Int → Int → Heap → Nat) (s : Int) (i : Int) (H_ : Heap) (Inv1 : Int → Int → Heap → Prop) (mu1 : Int → Int → Heap → Nat) (s1 : Int) (k : Int) (H_1 : Heap) : Prop :=
  (((decide (k < 8))) = true →
  ((2 : Int) ≠ 0) ∧
  ((2 : Int) ≠ 0) ∧
  ∀ Jn : Int → Heap → Prop, (∀ (s2 : Int), ∀ H_2 : Heap, R07_Sum.r1 Inv1 mu1 s1 k H_1 s2 H_2 → Jn s2 H_2) →
  (((decide ((Int.tmod s1 2) = 1))) = true →
  Jn (bitsV .xor .u32 (IntKind.u32.wrap (Int.tdiv s1 2)) 3988292384) H_1) ∧
  (((decide ((Int.tmod s1 2) = 1))) = false →
  Jn (IntKind.u32.wrap (Int.tdiv s1 2)) H_1)) ∧
  (((decide (k < 8))) = false →
  Inv s1 (IntKind.i64.wrap (i + 1)) H_1 ∧ mu s1 (IntKind.i64.wrap (i + 1)) H_1 < mu s i H_)

def R07_Sum.l3 (ba : Option Addr) (bn : Nat) (K : Value → Heap → Prop) (Inv : Int → Int → Heap → Prop) (mu : Int → Int → Heap → Nat) (s : Int) (i : Int) (H_ : Heap) : Prop :=
  (((decide (i < (bn : Int)))) = true →
  ((0 : Int) ≤ i ∧ i < (bn : Int)) ∧ ∃ b o : Nat, (ba = some ⟨b, o, none⟩) ∧
  ∃ v : Int, cellAt H_ b (o + i.toNat) = some (.int .u8 v) ∧
  ∃ (Inv1 : Int → Int → Heap → Prop) (mu1 : Int → Int → Heap → Nat), Inv1 (bitsV .xor .u32 s (IntKind.u32.wrap v)) 0 H_ ∧
  ∀ (s1 : Int) (k : Int), ∀ H_1 : Heap, Inv1 s1 k H_1 → R07_Sum.l2 Inv mu s i H_ Inv1 mu1 s1 k H_1) ∧
  (((decide (i < (bn : Int)))) = false →
  K (.int .u32 (bitsV .xor .u32 IntKind.u32.max s)) H_)

def R07_Sum.code (ba : Option Addr) (bn : Nat) (bc : Nat) (H : Heap) (K : Value → Heap → Prop) : Prop :=
  ∃ (Inv : Int → Int → Heap → Prop) (mu : Int → Int → Heap → Nat), Inv 4294967295 0 H ∧
  ∀ (s : Int) (i : Int), ∀ H_ : Heap, Inv s i H_ → R07_Sum.l3 ba bn K Inv mu s i H_

def R07_Sum.ann : Ann := (.seq .reg (.seq .reg (.seq (.seq .reg (.blk (.loop [(3, .one (.int .u32)), (4, .one (.int .i64))] (.seq (.seq .reg (.cond .no .no)) (.seq (.blk (.seq .reg (.seq .reg (.blk (.loop [(3, .one (.int .u32)), (5, .one (.int .i64))] (.seq (.seq .reg (.cond .no .no)) (.seq (.blk (.seq .reg (.seq .reg (.seq .reg (.condJ [(3, .one (.int .u32))] .reg .no))))) .reg))))))) .reg))))) (.seq .reg .no))))

theorem R07_Sum.eq (ba : Option Addr) (bn : Nat) (bc : Nat) (H : Heap) (K : Value → Heap → Prop) : vcFun X Tryz.f99 R07_Sum.ann [(.slice ba bn bc)] H K = R07_Sum.code ba bn bc H K := by kernel_rfl

theorem R07_Sum.call {ba : Option Addr} {bn : Nat} {bc : Nat} {H : Heap} {K : Value → Heap → Prop} (h : R07_Sum.code ba bn bc H K) : CallF Tryz.prog 99 #[(.slice ba bn bc)] H K :=
  callF_of_eq (X := X) X_P X_wide X_bodied Tryz.func99 (R07_Sum.eq ba bn bc H K) h

def code_put.l1 (K : Value → Heap → Prop) (Inv : (Option Addr) → Nat → Nat → Int → Heap → Prop) (mu : (Option Addr) → Nat → Nat → Int → Heap → Nat) (ba1 : Option Addr) (bn1 : Nat) (bc1 : Nat) (u1 : Int) (H_ : Heap) : Prop :=
  (((decide (128 ≤ u1))) = true →
  ∀ (b : Nat) (H_1 : Heap), b = H_.size → H_1 = H_.push (.cells #[(.int .u8 (bitsV .or .u8 (IntKind.u8.wrap u1) 128))] 5) →
  RunW Tryz.prog (Builtin.append_ #[32, 32] 32 #[(.slice ba1 bn1 bc1), (.slice (some ⟨b, 0, none⟩) 1 1)]) H_1 fun u2 H_2 =>
  ∃ sa : Option Addr, ∃ sn : Nat, ∃ sc : Nat, u2 = (.slice sa sn sc) ∧
  ((0 : Int) ≤ 7) ∧
  Inv sa sn sc (Int.fdiv u1 (2 ^ (min (Int.toNat 7) (IntKind.u64.bits)))) H_2 ∧ mu sa sn sc (Int.fdiv u1 (2 ^ (min (Int.toNat 7) (IntKind.u64.bits)))) H_2 < mu ba1 bn1 bc1 u1 H_) ∧
  (((decide (128 ≤ u1))) = false →
  ∀ (b1 : Nat) (H_3 : Heap), b1 = H_.size → H_3 = H_.push (.cells #[(.int .u8 (IntKind.u8.wrap u1))] 5) →
  RunW Tryz.prog (Builtin.append_ #[32, 32] 32 #[(.slice ba1 bn1 bc1), (.slice (some ⟨b1, 0, none⟩) 1 1)]) H_3 fun u3 H_4 =>
  ∃ sa1 : Option Addr, ∃ sn1 : Nat, ∃ sc1 : Nat, u3 = (.slice sa1 sn1 sc1) ∧
  K (.slice sa1 sn1 sc1) H_4)

def code_put.code (ba : Option Addr) (bn : Nat) (bc : Nat) (u : Int) (H : Heap) (K : Value → Heap → Prop) : Prop :=
  ∃ (Inv : (Option Addr) → Nat → Nat → Int → Heap → Prop) (mu : (Option Addr) → Nat → Nat → Int → Heap → Nat), Inv ba bn bc u H ∧
  ∀ (ba1 : Option Addr) (bn1 : Nat) (bc1 : Nat) (u1 : Int), ∀ H_ : Heap, Inv ba1 bn1 bc1 u1 H_ → code_put.l1 K Inv mu ba1 bn1 bc1 u1 H_

def code_put.ann : Ann := (.seq .reg (.seq (.blk (.loop [(0, .one (.slice)), (1, .one (.int .u64))] (.seq (.seq .reg (.cond .no .no)) (.seq (.blk .reg) .reg)))) (.seq .reg .no)))

theorem code_put.eq (ba : Option Addr) (bn : Nat) (bc : Nat) (u : Int) (H : Heap) (K : Value → Heap → Prop) : vcFun X Tryz.f94 code_put.ann [(.slice ba bn bc), (.int .u64 u)] H K = code_put.code ba bn bc u H K := by kernel_rfl

theorem code_put.call {ba : Option Addr} {bn : Nat} {bc : Nat} {u : Int} {H : Heap} {K : Value → Heap → Prop} (h : code_put.code ba bn bc u H K) : CallF Tryz.prog 94 #[(.slice ba bn bc), (.int .u64 u)] H K :=
  callF_of_eq (X := X) X_P X_wide X_bodied Tryz.func94 (code_put.eq ba bn bc u H K) h

def crc_Sum.l1 (Inv1 : Int → Int → Heap → Prop) (mu1 : Int → Int → Heap → Nat) (register1 : Int) (t17 : Int) (H_1 : Heap) (Inv2 : Int → Int → Heap → Prop) (mu2 : Int → Int → Heap → Nat) (register2 : Int) (t25 : Int) (H_2 : Heap) : Prop :=
  (((decide (t25 < 8))) = true →
  ((0 : Int) ≤ 1) ∧
  Inv2 (bitsV .xor .u32 (Int.fdiv register2 (2 ^ (min (Int.toNat 1) (IntKind.u32.bits)))) (bitsV .and .u32 (IntKind.u32.wrap (0 - (bitsV .and .u32 register2 1))) 3988292384)) (IntKind.i64.wrap (t25 + 1)) H_2 ∧ mu2 (bitsV .xor .u32 (Int.fdiv register2 (2 ^ (min (Int.toNat 1) (IntKind.u32.bits)))) (bitsV .and .u32 (IntKind.u32.wrap (0 - (bitsV .and .u32 register2 1))) 3988292384)) (IntKind.i64.wrap (t25 + 1)) H_2 < mu2 register2 t25 H_2) ∧
  (((decide (t25 < 8))) = false →
  Inv1 register2 (IntKind.i64.wrap (t17 + 1)) H_2 ∧ mu1 register2 (IntKind.i64.wrap (t17 + 1)) H_2 < mu1 register1 t17 H_1)

def crc_Sum.l2 (Inv : Int → Int → Heap → Prop) (mu : Int → Int → Heap → Nat) (register : Int) (t11 : Int) (H_ : Heap) (va : Option Addr) (vn : Nat) (Inv1 : Int → Int → Heap → Prop) (mu1 : Int → Int → Heap → Nat) (register1 : Int) (t17 : Int) (H_1 : Heap) : Prop :=
  (((decide (t17 < (vn : Int)))) = true →
  ((0 : Int) ≤ t17 ∧ t17 < (vn : Int)) ∧ ∃ b1 o1 : Nat, (va = some ⟨b1, o1, none⟩) ∧
  ∃ v : Int, cellAt H_1 b1 (o1 + t17.toNat) = some (.int .u8 v) ∧
  ∃ (Inv2 : Int → Int → Heap → Prop) (mu2 : Int → Int → Heap → Nat), Inv2 (bitsV .xor .u32 register1 (IntKind.u32.wrap v)) 0 H_1 ∧
  ∀ (register2 : Int) (t25 : Int), ∀ H_2 : Heap, Inv2 register2 t25 H_2 → crc_Sum.l1 Inv1 mu1 register1 t17 H_1 Inv2 mu2 register2 t25 H_2) ∧
  (((decide (t17 < (vn : Int)))) = false →
  Inv register1 (IntKind.i64.wrap (t11 + 1)) H_1 ∧ mu register1 (IntKind.i64.wrap (t11 + 1)) H_1 < mu register t11 H_)

def crc_Sum.l3 (partsa : Option Addr) (partsn : Nat) (K : Value → Heap → Prop) (Inv : Int → Int → Heap → Prop) (mu : Int → Int → Heap → Nat) (register : Int) (t11 : Int) (H_ : Heap) : Prop :=
  (((decide (t11 < (partsn : Int)))) = true →
  ((0 : Int) ≤ t11 ∧ t11 < (partsn : Int)) ∧ ∃ b o : Nat, (partsa = some ⟨b, o, none⟩) ∧
  ∃ va : Option Addr, ∃ vn : Nat, ∃ vc : Nat, cellAt H_ b (o + t11.toNat) = some (.slice va vn vc) ∧
  ∃ (Inv1 : Int → Int → Heap → Prop) (mu1 : Int → Int → Heap → Nat), Inv1 register 0 H_ ∧
  ∀ (register1 : Int) (t17 : Int), ∀ H_1 : Heap, Inv1 register1 t17 H_1 → crc_Sum.l2 Inv mu register t11 H_ va vn Inv1 mu1 register1 t17 H_1) ∧
  (((decide (t11 < (partsn : Int)))) = false →
  K (.int .u32 (bitsV .xor .u32 IntKind.u32.max register)) H_)

def crc_Sum.code (partsa : Option Addr) (partsn : Nat) (partsc : Nat) (H : Heap) (K : Value → Heap → Prop) : Prop :=
  ∃ (Inv : Int → Int → Heap → Prop) (mu : Int → Int → Heap → Nat), Inv 4294967295 0 H ∧
  ∀ (register : Int) (t11 : Int), ∀ H_ : Heap, Inv register t11 H_ → crc_Sum.l3 partsa partsn K Inv mu register t11 H_

def crc_Sum.ann : Ann := (.seq .reg (.seq .reg (.seq (.seq .reg (.blk (.loop [(3, .one (.int .u32)), (11, .one (.int .i64))] (.seq .reg (.seq (.cond .no .no) (.seq (.blk (.seq .reg (.seq .reg (.blk (.loop [(3, .one (.int .u32)), (17, .one (.int .i64))] (.seq .reg (.seq (.cond .no .no) (.seq (.blk (.seq .reg (.seq .reg (.seq .reg (.blk (.loop [(3, .one (.int .u32)), (25, .one (.int .i64))] (.seq .reg (.seq (.cond .no .no) (.seq (.blk (.seq .reg .reg)) .reg))))))))) .reg)))))))) .reg)))))) (.seq .reg .no))))

theorem crc_Sum.eq (partsa : Option Addr) (partsn : Nat) (partsc : Nat) (H : Heap) (K : Value → Heap → Prop) : vcFun X Tryz.f92 crc_Sum.ann [(.slice partsa partsn partsc)] H K = crc_Sum.code partsa partsn partsc H K := by kernel_rfl

theorem crc_Sum.call {partsa : Option Addr} {partsn : Nat} {partsc : Nat} {H : Heap} {K : Value → Heap → Prop} (h : crc_Sum.code partsa partsn partsc H K) : CallF Tryz.prog 92 #[(.slice partsa partsn partsc)] H K :=
  callF_of_eq (X := X) X_P X_wide X_bodied Tryz.func92 (crc_Sum.eq partsa partsn partsc H K) h

def reel_gather.r1 (K : Value → Heap → Prop) (alla : Option Addr) (alln : Nat) (allc : Nat) (H_ : Heap) : Prop :=
  K (.slice alla alln allc) H_

def reel_gather.l2 (partsa : Option Addr) (partsn : Nat) (Jn : (Option Addr) → Nat → Nat → Heap → Prop) (Inv : (Option Addr) → Nat → Nat → Int → Heap → Prop) (mu : (Option Addr) → Nat → Nat → Int → Heap → Nat) (alla1 : Option Addr) (alln1 : Nat) (allc1 : Nat) (t8 : Int) (H_1 : Heap) : Prop :=
  (((decide (t8 < (partsn : Int)))) = true →
  ((0 : Int) ≤ t8 ∧ t8 < (partsn : Int)) ∧ ∃ b o : Nat, (partsa = some ⟨b, o, none⟩) ∧
  ∃ va : Option Addr, ∃ vn : Nat, ∃ vc : Nat, cellAt H_1 b (o + t8.toNat) = some (.slice va vn vc) ∧
  (((decide (262144 < (alln1 : Int)))) = true →
  Jn alla1 alln1 allc1 H_1) ∧
  (((decide (262144 < (alln1 : Int)))) = false →
  RunW Tryz.prog (Builtin.append_ #[32, 32] 32 #[(.slice alla1 alln1 allc1), (.slice va vn vc)]) H_1 fun u H_2 =>
  ∃ sa : Option Addr, ∃ sn : Nat, ∃ sc : Nat, u = (.slice sa sn sc) ∧
  Inv sa sn sc (IntKind.i64.wrap (t8 + 1)) H_2 ∧ mu sa sn sc (IntKind.i64.wrap (t8 + 1)) H_2 < mu alla1 alln1 allc1 t8 H_1)) ∧
  (((decide (t8 < (partsn : Int)))) = false →
  Jn alla1 alln1 allc1 H_1)

def reel_gather.code (partsa : Option Addr) (partsn : Nat) (partsc : Nat) (H : Heap) (K : Value → Heap → Prop) : Prop :=
  ∀ Jn : (Option Addr) → Nat → Nat → Heap → Prop, (∀ (alla : Option Addr) (alln : Nat) (allc : Nat), ∀ H_ : Heap, reel_gather.r1 K alla alln allc H_ → Jn alla alln allc H_) →
  ∃ (Inv : (Option Addr) → Nat → Nat → Int → Heap → Prop) (mu : (Option Addr) → Nat → Nat → Int → Heap → Nat), Inv none 0 0 0 H ∧
  ∀ (alla1 : Option Addr) (alln1 : Nat) (allc1 : Nat) (t8 : Int), ∀ H_1 : Heap, Inv alla1 alln1 allc1 t8 H_1 → reel_gather.l2 partsa partsn Jn Inv mu alla1 alln1 allc1 t8 H_1

def reel_gather.ann : Ann := (.seq .reg (.seq .reg (.seq (.seq .reg (.blkJ [(3, .one (.slice))] (.loop [(3, .one (.slice)), (8, .one (.int .i64))] (.seq .reg (.seq (.cond .no .no) (.seq (.blk (.seq .reg (.seq (.seq .reg (.cond .no .no)) .reg))) .reg)))))) (.seq .reg .no))))

theorem reel_gather.eq (partsa : Option Addr) (partsn : Nat) (partsc : Nat) (H : Heap) (K : Value → Heap → Prop) : vcFun X Tryz.f55 reel_gather.ann [(.slice partsa partsn partsc)] H K = reel_gather.code partsa partsn partsc H K := by kernel_rfl

theorem reel_gather.call {partsa : Option Addr} {partsn : Nat} {partsc : Nat} {H : Heap} {K : Value → Heap → Prop} (h : reel_gather.code partsa partsn partsc H K) : CallF Tryz.prog 55 #[(.slice partsa partsn partsc)] H K :=
  callF_of_eq (X := X) X_P X_wide X_bodied Tryz.func55 (reel_gather.eq partsa partsn partsc H K) h

def R11_Reel_Drop.r1 (Inv : Int → Heap → Prop) (mu : Int → Heap → Nat) (i : Int) (H_1 : Heap) (H_2 : Heap) : Prop :=
  Inv (IntKind.i64.wrap (i + 1)) H_2 ∧ mu (IntKind.i64.wrap (i + 1)) H_2 < mu i H_1

def R11_Reel_Drop.l2 (rb : Nat) (ro : Nat) (below : Int) (K : Value → Heap → Prop) (ra : Option Addr) (rn : Nat) (Inv : Int → Heap → Prop) (mu : Int → Heap → Nat) (i : Int) (H_1 : Heap) : Prop :=
  (((decide (i < (rn : Int)))) = true →
  ((0 : Int) ≤ i ∧ i < (rn : Int)) ∧ ∃ b o : Nat, (ra = some ⟨b, o, none⟩) ∧
  ∃ v4 : Int, cellAt H_1 b (o + i.toNat) = some (.int .i64 v4) ∧
  ∀ Jn : Heap → Prop, (∀ H_2 : Heap, R11_Reel_Drop.r1 Inv mu i H_1 H_2 → Jn H_2) →
  (((decide (v4 < below))) = true →
  ∃ v5 : Option Addr, cellAt H_1 rb ro = some (.pointer v5) ∧
  ((0 : Int) ≤ i ∧ i < (rn : Int)) ∧ ∃ b1 o1 : Nat, (ra = some ⟨b1, o1, none⟩) ∧
  ∃ v6 : Int, cellAt H_1 b1 (o1 + i.toNat) = some (.int .i64 v6) ∧
  CallF Tryz.prog 66 #[(.pointer v5), (.int .i64 v6)] H_1 fun u1 H_3 => ∃ r : Int, u1 = (.int .i64 r) ∧
  Jn H_3) ∧
  (((decide (v4 < below))) = false →
  Jn H_1)) ∧
  (((decide (i < (rn : Int)))) = false →
  K (.int .i64 0) H_1)

def R11_Reel_Drop.code (rb : Nat) (ro : Nat) (below : Int) (H : Heap) (K : Value → Heap → Prop) : Prop :=
  ∃ v : Option Addr, cellAt H rb ro = some (.pointer v) ∧
  NN v (
  ∃ v1 : Int, cellAt H (adrB v) ((adrO v) + 1) = some (.int .i64 v1) ∧
  ∃ v2 : Option Addr, cellAt H rb ro = some (.pointer v2) ∧
  NN v2 (
  ∃ va : Option Addr, ∃ vn : Nat, ∃ vc : Nat, cellAt H (adrB v2) (adrO v2) = some (.slice va vn vc) ∧
  (((decide (v1 < (vn : Int)))) = true →
  K (.int .i64 21) H) ∧
  (((decide (v1 < (vn : Int)))) = false →
  ∃ v3 : Option Addr, cellAt H rb ro = some (.pointer v3) ∧
  CallF Tryz.prog 31 #[(.pointer v3)] H fun u H_ => ∃ ra : Option Addr, ∃ rn : Nat, ∃ rc : Nat, u = (.slice ra rn rc) ∧
  ∃ (Inv : Int → Heap → Prop) (mu : Int → Heap → Nat), Inv 0 H_ ∧
  ∀ (i : Int), ∀ H_1 : Heap, Inv i H_1 → R11_Reel_Drop.l2 rb ro below K ra rn Inv mu i H_1)))

def R11_Reel_Drop.ann : Ann := (.seq .reg (.seq (.seq .reg (.cond (.seq .reg .no) .no)) (.seq .reg (.seq (.seq .reg (.blk (.loop [(6, .one (.int .i64))] (.seq (.seq .reg (.cond .no .no)) (.seq (.blk (.seq .reg (.condJ [] .reg .no))) .reg))))) (.seq .reg .no)))))

theorem R11_Reel_Drop.eq (rb : Nat) (ro : Nat) (below : Int) (H : Heap) (K : Value → Heap → Prop) : vcFun X Tryz.f46 R11_Reel_Drop.ann [(.pointer (some ⟨rb, ro, none⟩)), (.int .i64 below)] H K = R11_Reel_Drop.code rb ro below H K := by kernel_rfl

theorem R11_Reel_Drop.call {rb : Nat} {ro : Nat} {below : Int} {H : Heap} {K : Value → Heap → Prop} (h : R11_Reel_Drop.code rb ro below H K) : CallF Tryz.prog 46 #[(.pointer (some ⟨rb, ro, none⟩)), (.int .i64 below)] H K :=
  callF_of_eq (X := X) X_P X_wide X_bodied Tryz.func46 (R11_Reel_Drop.eq rb ro below H K) h

def R11_Reel_Append.r1 (rb : Nat) (ro : Nat) (K : Value → Heap → Prop) (ra : Option Addr) (rn : Nat) (rc : Nat) (H_2 : Heap) : Prop :=
  ∃ v3 : Option Addr, cellAt H_2 rb ro = some (.pointer v3) ∧
  ∃ v4 : Int, cellAt H_2 rb (ro + 2) = some (.int .i64 v4) ∧
  CallF Tryz.prog 65 #[(.pointer v3), (.int .i64 v4), (.slice ra rn rc)] H_2 fun u2 H_3 => ∃ r1 : Int, u2 = (.int .i64 r1) ∧
  ∃ v5 : Int, cellAt H_3 rb (ro + 3) = some (.int .i64 v5) ∧
  canSet H_3 rb (ro + 3) [(.int .i64 (IntKind.i64.wrap (v5 + 1)))] ∧
  ∀ H_4 : Heap, H_4 = setAll H_3 rb (ro + 3) [(.int .i64 (IntKind.i64.wrap (v5 + 1)))] →
  ∃ v6 : Int, cellAt H_4 rb (ro + 3) = some (.int .i64 v6) ∧
  K (.tuple #[(.int .i64 (IntKind.i64.wrap (v6 - 1))), (.int .i64 0)]) H_4

def R11_Reel_Append.code (rb : Nat) (ro : Nat) (kind : Int) (dataa : Option Addr) (datan : Nat) (datac : Nat) (H : Heap) (K : Value → Heap → Prop) : Prop :=
  CallF Tryz.prog 64 #[(.int .i64 kind), (.slice dataa datan datac)] H fun u H_ => ∃ ra : Option Addr, ∃ rn : Nat, ∃ rc : Nat, ∃ r : Int, u = (.tuple #[(.slice ra rn rc), (.int .i64 r)]) ∧
  (((!decide (r = 0))) = true →
  K (.tuple #[(.int .i64 (-1)), (.int .i64 r)]) H_) ∧
  (((!decide (r = 0))) = false →
  ∃ v : Option Addr, cellAt H_ rb ro = some (.pointer v) ∧
  ∃ v1 : Int, cellAt H_ rb (ro + 2) = some (.int .i64 v1) ∧
  CallF Tryz.prog 37 #[(.pointer v), (.int .i64 v1)] H_ fun u1 H_1 => ∃ ra1 : Option Addr, ∃ rn1 : Nat, ∃ rc1 : Nat, u1 = (.slice ra1 rn1 rc1) ∧
  (((decide (0 < (rn1 : Int))) = true) → True) ∧
  ∃ v2 : Int, (((decide (0 < (rn1 : Int))) = true) → cellAt H_1 rb (ro + 1) = some (.int .i64 v2)) ∧
  ∀ Jn : Heap → Prop, (∀ H_2 : Heap, R11_Reel_Append.r1 rb ro K ra rn rc H_2 → Jn H_2) →
  ((((decide (0 < (rn1 : Int))) && (decide (v2 < (IntKind.i64.wrap ((rn1 : Int) + (rn : Int))))))) = true →
  ∃ v7 : Int, cellAt H_1 rb (ro + 2) = some (.int .i64 v7) ∧
  (((decide (v7 = 2147483647))) = true →
  K (.tuple #[(.int .i64 (-1)), (.int .i64 20)]) H_1) ∧
  (((decide (v7 = 2147483647))) = false →
  ∃ v8 : Int, cellAt H_1 rb (ro + 2) = some (.int .i64 v8) ∧
  canSet H_1 rb (ro + 2) [(.int .i64 (IntKind.i64.wrap (v8 + 1)))] ∧
  ∀ H_5 : Heap, H_5 = setAll H_1 rb (ro + 2) [(.int .i64 (IntKind.i64.wrap (v8 + 1)))] →
  Jn H_5)) ∧
  ((((decide (0 < (rn1 : Int))) && (decide (v2 < (IntKind.i64.wrap ((rn1 : Int) + (rn : Int))))))) = false →
  Jn H_1))

def R11_Reel_Append.ann : Ann := (.seq .reg (.seq .reg (.seq (.seq .reg (.cond (.seq .reg .no) .no)) (.seq .reg (.seq (.seq .reg (.condJ [] (.seq (.seq .reg (.cond (.seq .reg .no) .no)) .reg) .no)) (.seq .reg (.seq .reg (.seq .reg .no))))))))

theorem R11_Reel_Append.eq (rb : Nat) (ro : Nat) (kind : Int) (dataa : Option Addr) (datan : Nat) (datac : Nat) (H : Heap) (K : Value → Heap → Prop) : vcFun X Tryz.f45 R11_Reel_Append.ann [(.pointer (some ⟨rb, ro, none⟩)), (.int .i64 kind), (.slice dataa datan datac)] H K = R11_Reel_Append.code rb ro kind dataa datan datac H K := by kernel_rfl

theorem R11_Reel_Append.call {rb : Nat} {ro : Nat} {kind : Int} {dataa : Option Addr} {datan : Nat} {datac : Nat} {H : Heap} {K : Value → Heap → Prop} (h : R11_Reel_Append.code rb ro kind dataa datan datac H K) : CallF Tryz.prog 45 #[(.pointer (some ⟨rb, ro, none⟩)), (.int .i64 kind), (.slice dataa datan datac)] H K :=
  callF_of_eq (X := X) X_P X_wide X_bodied Tryz.func45 (R11_Reel_Append.eq rb ro kind dataa datan datac H K) h

def R11_All.l1 (db : Nat) (do_ : Nat) (K : Value → Heap → Prop) (ra : Option Addr) (rn : Nat) (Inv : (Option Addr) → Nat → Nat → Int → Heap → Prop) (mu : (Option Addr) → Nat → Nat → Int → Heap → Nat) (outa : Option Addr) (outn : Nat) (outc : Nat) (i : Int) (H_2 : Heap) : Prop :=
  (((decide (i < (rn : Int)))) = true →
  ((0 : Int) ≤ i ∧ i < (rn : Int)) ∧ ∃ b1 o : Nat, (ra = some ⟨b1, o, none⟩) ∧
  ∃ v : Int, cellAt H_2 b1 (o + i.toNat) = some (.int .i64 v) ∧
  CallF Tryz.prog 37 #[(.pointer (some ⟨db, do_, none⟩)), (.int .i64 v)] H_2 fun u1 H_3 => ∃ ra1 : Option Addr, ∃ rn1 : Nat, ∃ rc1 : Nat, u1 = (.slice ra1 rn1 rc1) ∧
  CallF Tryz.prog 63 #[(.slice ra1 rn1 rc1)] H_3 fun u2 H_4 => ∃ ra2 : Option Addr, ∃ rn2 : Nat, ∃ rc2 : Nat, ∃ r : Int, u2 = (.tuple #[(.slice ra2 rn2 rc2), (.int .i64 r)]) ∧
  RunW Tryz.prog (Builtin.append_ #[40, 40] 40 #[(.slice outa outn outc), (.slice ra2 rn2 rc2)]) H_4 fun u3 H_5 =>
  ∃ sa : Option Addr, ∃ sn : Nat, ∃ sc : Nat, u3 = (.slice sa sn sc) ∧
  Inv sa sn sc (IntKind.i64.wrap (i + 1)) H_5 ∧ mu sa sn sc (IntKind.i64.wrap (i + 1)) H_5 < mu outa outn outc i H_2) ∧
  (((decide (i < (rn : Int)))) = false →
  K (.slice outa outn outc) H_2)

def R11_All.code (db : Nat) (do_ : Nat) (H : Heap) (K : Value → Heap → Prop) : Prop :=
  ∀ (b : Nat) (H_ : Heap), b = H.size → H_ = H.push (.cells #[] 124) →
  CallF Tryz.prog 31 #[(.pointer (some ⟨db, do_, none⟩))] H_ fun u H_1 => ∃ ra : Option Addr, ∃ rn : Nat, ∃ rc : Nat, u = (.slice ra rn rc) ∧
  ∃ (Inv : (Option Addr) → Nat → Nat → Int → Heap → Prop) (mu : (Option Addr) → Nat → Nat → Int → Heap → Nat), Inv (some ⟨b, 0, none⟩) 0 0 0 H_1 ∧
  ∀ (outa : Option Addr) (outn : Nat) (outc : Nat) (i : Int), ∀ H_2 : Heap, Inv outa outn outc i H_2 → R11_All.l1 db do_ K ra rn Inv mu outa outn outc i H_2

def R11_All.ann : Ann := (.seq .reg (.seq .reg (.seq .reg (.seq (.seq .reg (.blk (.loop [(3, .one (.slice)), (5, .one (.int .i64))] (.seq (.seq .reg (.cond .no .no)) (.seq (.blk (.seq .reg .reg)) .reg))))) (.seq .reg .no)))))

theorem R11_All.eq (db : Nat) (do_ : Nat) (H : Heap) (K : Value → Heap → Prop) : vcFun X Tryz.f44 R11_All.ann [(.pointer (some ⟨db, do_, none⟩))] H K = R11_All.code db do_ H K := by kernel_rfl

theorem R11_All.call {db : Nat} {do_ : Nat} {H : Heap} {K : Value → Heap → Prop} (h : R11_All.code db do_ H K) : CallF Tryz.prog 44 #[(.pointer (some ⟨db, do_, none⟩))] H K :=
  callF_of_eq (X := X) X_P X_wide X_bodied Tryz.func44 (R11_All.eq db do_ H K) h

def R11_one.code (ba : Option Addr) (bn : Nat) (bc : Nat) (H : Heap) (K : Value → Heap → Prop) : Prop :=
  ∀ (b : Nat) (H_ : Heap), b = H.size → H_ = H.push (.cells #[(.int .i64 0), (.slice none 0 0)] 124) →
  CallF Tryz.prog 96 #[(.slice ba bn bc)] H_ fun u H_1 => ∃ r : Option Addr, u = (.pointer r) ∧
  CallF Tryz.prog 97 #[(.pointer r)] H_1 fun u1 H_2 => ∃ r1 : Int, u1 = (.int .u64 r1) ∧
  NN r (
  ∃ v : Int, cellAt H_2 (adrB r) ((adrO r) + 1) = some (.int .i64 v) ∧
  (((!decide (v = 0)) = false) → isA r) ∧
  ∃ va : Option Addr, ∃ vn : Nat, ∃ vc : Nat, (((!decide (v = 0)) = false) → cellAt H_2 (adrB r) (adrO r) = some (.slice va vn vc)) ∧
  ((((!decide (v = 0)) || (decide ((IntKind.u64.wrap (vn : Int)) < r1)))) = true →
  canSet H_2 b 0 [(.int .i64 0), (.slice none 0 0)] ∧
  ∀ H_3 : Heap, H_3 = setAll H_2 b 0 [(.int .i64 0), (.slice none 0 0)] →
  ∃ res0 : Int, ∃ res1a : Option Addr, ∃ res1n : Nat, ∃ res1c : Nat, cellsAre H_3 b 0 [(.int .i64 res0), (.slice res1a res1n res1c)] ∧
  K (.tuple #[(.agg #[(.int .i64 res0), (.slice res1a res1n res1c)]), (.int .i64 0)]) H_3) ∧
  ((((!decide (v = 0)) || (decide ((IntKind.u64.wrap (vn : Int)) < r1)))) = false →
  NN r (
  ∃ va1 : Option Addr, ∃ vn1 : Nat, ∃ vc1 : Nat, cellAt H_2 (adrB r) (adrO r) = some (.slice va1 vn1 vc1) ∧
  ((0 : Int) ≤ 0 ∧ (0 : Int) ≤ r1 ∧ r1 ≤ (vc1 : Int)) ∧
  CallF Tryz.prog 98 #[(.slice (slB va1 0 vc1 1) r1.toNat vc1)] H_2 fun u2 H_4 => ∃ ra : Option Addr, ∃ rn : Nat, ∃ rc : Nat, ∃ r2 : Int, u2 = (.tuple #[(.slice ra rn rc), (.int .i64 r2)]) ∧
  (((!decide (r2 = 0))) = true →
  canSet H_4 b 0 [(.int .i64 0), (.slice none 0 0)] ∧
  ∀ H_5 : Heap, H_5 = setAll H_4 b 0 [(.int .i64 0), (.slice none 0 0)] →
  ∃ res0_1 : Int, ∃ res1a1 : Option Addr, ∃ res1n1 : Nat, ∃ res1c1 : Nat, cellsAre H_5 b 0 [(.int .i64 res0_1), (.slice res1a1 res1n1 res1c1)] ∧
  K (.tuple #[(.agg #[(.int .i64 res0_1), (.slice res1a1 res1n1 res1c1)]), (.int .i64 0)]) H_5) ∧
  (((!decide (r2 = 0))) = false →
  CallF Tryz.prog 96 #[(.slice ra rn rc)] H_4 fun u3 H_6 => ∃ r3 : Option Addr, u3 = (.pointer r3) ∧
  CallF Tryz.prog 97 #[(.pointer r3)] H_6 fun u4 H_7 => ∃ r4 : Int, u4 = (.int .u64 r4) ∧
  NN r3 (
  ∃ v1 : Int, cellAt H_7 (adrB r3) ((adrO r3) + 1) = some (.int .i64 v1) ∧
  ((((!decide (v1 = 0)) || (decide (255 < r4))) = false) → isA r3) ∧
  ∃ va2 : Option Addr, ∃ vn2 : Nat, ∃ vc2 : Nat, ((((!decide (v1 = 0)) || (decide (255 < r4))) = false) → cellAt H_7 (adrB r3) (adrO r3) = some (.slice va2 vn2 vc2)) ∧
  (((((!decide (v1 = 0)) || (decide (255 < r4))) || (decide (262144 < (vn2 : Int))))) = true →
  canSet H_7 b 0 [(.int .i64 0), (.slice none 0 0)] ∧
  ∀ H_8 : Heap, H_8 = setAll H_7 b 0 [(.int .i64 0), (.slice none 0 0)] →
  ∃ res0_2 : Int, ∃ res1a2 : Option Addr, ∃ res1n2 : Nat, ∃ res1c2 : Nat, cellsAre H_8 b 0 [(.int .i64 res0_2), (.slice res1a2 res1n2 res1c2)] ∧
  K (.tuple #[(.agg #[(.int .i64 res0_2), (.slice res1a2 res1n2 res1c2)]), (.int .i64 0)]) H_8) ∧
  (((((!decide (v1 = 0)) || (decide (255 < r4))) || (decide (262144 < (vn2 : Int))))) = false →
  NN r3 (
  ∃ va3 : Option Addr, ∃ vn3 : Nat, ∃ vc3 : Nat, cellAt H_7 (adrB r3) (adrO r3) = some (.slice va3 vn3 vc3) ∧
  NN r (
  ∃ va4 : Option Addr, ∃ vn4 : Nat, ∃ vc4 : Nat, cellAt H_7 (adrB r) (adrO r) = some (.slice va4 vn4 vc4) ∧
  CallF Tryz.prog 23 #[(.slice va3 vn3 vc3)] H_7 fun u5 H_9 => ∃ ra1 : Option Addr, ∃ rn1 : Nat, ∃ rc1 : Nat, u5 = (.slice ra1 rn1 rc1) ∧
  cellAt H_9 (adrB r) (adrO r) = some (.slice va4 vn4 vc4) ∧
  canSet H_9 b 0 [(.int .i64 (IntKind.i64.wrap r4)), (.slice ra1 rn1 rc1)] ∧
  ∀ H_10 : Heap, H_10 = setAll H_9 b 0 [(.int .i64 (IntKind.i64.wrap r4)), (.slice ra1 rn1 rc1)] →
  cellAt H_10 (adrB r) (adrO r) = some (.slice va4 vn4 vc4) ∧
  ∃ res0_3 : Int, ∃ res1a3 : Option Addr, ∃ res1n3 : Nat, ∃ res1c3 : Nat, cellsAre H_10 b 0 [(.int .i64 res0_3), (.slice res1a3 res1n3 res1c3)] ∧
  K (.tuple #[(.agg #[(.int .i64 res0_3), (.slice res1a3 res1n3 res1c3)]), (.int .i64 (IntKind.i64.wrap ((IntKind.i64.wrap ((bn : Int) - (vn4 : Int))) + (IntKind.i64.wrap r1))))]) H_10))))))))

def R11_one.ann : Ann := (.seq .reg (.seq .reg (.seq .reg (.seq (.seq .reg (.cond (.seq .reg .no) .no)) (.seq .reg (.seq (.seq .reg (.cond (.seq .reg .no) .no)) (.seq .reg (.seq .reg (.seq (.seq .reg (.cond (.seq .reg .no) .no)) (.seq .reg .no))))))))))

theorem R11_one.eq (ba : Option Addr) (bn : Nat) (bc : Nat) (H : Heap) (K : Value → Heap → Prop) : vcFun X Tryz.f78 R11_one.ann [(.slice ba bn bc)] H K = R11_one.code ba bn bc H K := by kernel_rfl

theorem R11_one.call {ba : Option Addr} {bn : Nat} {bc : Nat} {H : Heap} {K : Value → Heap → Prop} (h : R11_one.code ba bn bc H K) : CallF Tryz.prog 78 #[(.slice ba bn bc)] H K :=
  callF_of_eq (X := X) X_P X_wide X_bodied Tryz.func78 (R11_one.eq ba bn bc H K) h

def reel_record.code (ba : Option Addr) (bn : Nat) (bc : Nat) (H : Heap) (K : Value → Heap → Prop) : Prop :=
  ∀ (b : Nat) (H_ : Heap), b = H.size → H_ = H.push (.cells #[(.int .i64 0), (.slice none 0 0)] 64) →
  CallF Tryz.prog 75 #[(.slice ba bn bc)] H_ fun u H_1 => ∃ ra : Option Addr, ∃ rn : Nat, ∃ rc : Nat, ∃ r : Int, u = (.tuple #[(.slice ra rn rc), (.int .i64 r)]) ∧
  (((!decide (r = 0))) = true →
  canSet H_1 b 0 [(.int .i64 0), (.slice none 0 0)] ∧
  ∀ H_2 : Heap, H_2 = setAll H_1 b 0 [(.int .i64 0), (.slice none 0 0)] →
  ∃ res0 : Int, ∃ res1a : Option Addr, ∃ res1n : Nat, ∃ res1c : Nat, cellsAre H_2 b 0 [(.int .i64 res0), (.slice res1a res1n res1c)] ∧
  K (.tuple #[(.agg #[(.int .i64 res0), (.slice res1a res1n res1c)]), (.bool false)]) H_2) ∧
  (((!decide (r = 0))) = false →
  CallF Tryz.prog 58 #[(.slice ra rn rc)] H_1 fun u1 H_3 => ∃ r1 : Option Addr, u1 = (.pointer r1) ∧
  CallF Tryz.prog 76 #[(.pointer r1), (.int .i64 255)] H_3 fun u2 H_4 => ∃ r2 : Int, u2 = (.int .i64 r2) ∧
  ∃ r3 : Int, CallQ Tryz.prog 61 #[(.pointer r1)] H_4 (.int .i64 r3) ∧
  ∃ r4 : Int, (((!decide (r3 = 0)) = false) → CallQ Tryz.prog 59 #[(.pointer r1)] H_4 (.int .i64 r4)) ∧
  ((((!decide (r3 = 0)) || (decide (262144 < r4)))) = true →
  canSet H_4 b 0 [(.int .i64 0), (.slice none 0 0)] ∧
  ∀ H_5 : Heap, H_5 = setAll H_4 b 0 [(.int .i64 0), (.slice none 0 0)] →
  ∃ res0_1 : Int, ∃ res1a1 : Option Addr, ∃ res1n1 : Nat, ∃ res1c1 : Nat, cellsAre H_5 b 0 [(.int .i64 res0_1), (.slice res1a1 res1n1 res1c1)] ∧
  K (.tuple #[(.agg #[(.int .i64 res0_1), (.slice res1a1 res1n1 res1c1)]), (.bool false)]) H_5) ∧
  ((((!decide (r3 = 0)) || (decide (262144 < r4)))) = false →
  ∃ r5 : Int, CallQ Tryz.prog 59 #[(.pointer r1)] H_4 (.int .i64 r5) ∧
  ((0 : Int) ≤ (IntKind.i64.wrap ((rn : Int) - r5)) ∧ (IntKind.i64.wrap ((rn : Int) - r5)) ≤ (rn : Int) ∧ (rn : Int) ≤ (rc : Int)) ∧
  CallF Tryz.prog 77 #[(.slice (slB ra ((IntKind.i64.wrap ((rn : Int) - r5)).toNat) rc 1) (rn - ((IntKind.i64.wrap ((rn : Int) - r5)).toNat)) (rc - ((IntKind.i64.wrap ((rn : Int) - r5)).toNat)))] H_4 fun u3 H_6 => ∃ ra1 : Option Addr, ∃ rn1 : Nat, ∃ rc1 : Nat, u3 = (.slice ra1 rn1 rc1) ∧
  canSet H_6 b 0 [(.int .i64 r2), (.slice ra1 rn1 rc1)] ∧
  ∀ H_7 : Heap, H_7 = setAll H_6 b 0 [(.int .i64 r2), (.slice ra1 rn1 rc1)] →
  ∃ res0_2 : Int, ∃ res1a2 : Option Addr, ∃ res1n2 : Nat, ∃ res1c2 : Nat, cellsAre H_7 b 0 [(.int .i64 res0_2), (.slice res1a2 res1n2 res1c2)] ∧
  K (.tuple #[(.agg #[(.int .i64 res0_2), (.slice res1a2 res1n2 res1c2)]), (.bool true)]) H_7))

def reel_record.ann : Ann := (.seq .reg (.seq .reg (.seq (.seq .reg (.cond (.seq .reg .no) .no)) (.seq .reg (.seq .reg (.seq (.seq .reg (.cond (.seq .reg .no) .no)) (.seq .reg .no)))))))

theorem reel_record.eq (ba : Option Addr) (bn : Nat) (bc : Nat) (H : Heap) (K : Value → Heap → Prop) : vcFun X Tryz.f62 reel_record.ann [(.slice ba bn bc)] H K = reel_record.code ba bn bc H K := by kernel_rfl

theorem reel_record.call {ba : Option Addr} {bn : Nat} {bc : Nat} {H : Heap} {K : Value → Heap → Prop} (h : reel_record.code ba bn bc H K) : CallF Tryz.prog 62 #[(.slice ba bn bc)] H K :=
  callF_of_eq (X := X) X_P X_wide X_bodied Tryz.func62 (reel_record.eq ba bn bc H K) h

def code_Reader_Err.code (rb : Nat) (ro : Nat) (H : Heap) (K : Value → Heap → Prop) : Prop :=
  ∃ v : Int, cellAt H rb (ro + 1) = some (.int .i64 v) ∧
  K (.int .i64 v) H

def code_Reader_Err.ann : Ann := (.seq .reg (.seq .reg .no))

theorem code_Reader_Err.eq (rb : Nat) (ro : Nat) (H : Heap) (K : Value → Heap → Prop) : vcFun X Tryz.f61 code_Reader_Err.ann [(.pointer (some ⟨rb, ro, none⟩))] H K = code_Reader_Err.code rb ro H K := by kernel_rfl

theorem code_Reader_Err.call {rb : Nat} {ro : Nat} {H : Heap} {K : Value → Heap → Prop} (h : code_Reader_Err.code rb ro H K) : CallF Tryz.prog 61 #[(.pointer (some ⟨rb, ro, none⟩))] H K :=
  callF_of_eq (X := X) X_P X_wide X_bodied Tryz.func61 (code_Reader_Err.eq rb ro H K) h

def code_Reader_Text.r1 (rb : Nat) (ro : Nat) (K : Value → Heap → Prop) (r : Int) (r1 : Int) (err : Int) (H_ : Heap) : Prop :=
  ∃ va2 : Option Addr, ∃ vn2 : Nat, ∃ vc2 : Nat, cellAt H_ rb ro = some (.slice va2 vn2 vc2) ∧
  CallF Tryz.prog 74 #[(.pointer (some ⟨rb, ro, none⟩)), (.int .i64 (IntKind.i64.wrap (r1 + r))), (.int .i64 err)] H_ fun u H_1 => ∃ r3 : Bool, u = (.bool r3) ∧
  (((!r3)) = true →
  K (.string ⟨#[]⟩) H_1) ∧
  (((!r3)) = false →
  ((0 : Int) ≤ r1 ∧ r1 ≤ (IntKind.i64.wrap (r1 + r)) ∧ (IntKind.i64.wrap (r1 + r)) ≤ (vc2 : Int)) ∧
  ∃ s : ByteArray, ReadRun Tryz.prog (convert 32 9 (.slice (slB va2 r1.toNat vc2 1) (((IntKind.i64.wrap (r1 + r)).toNat) - r1.toNat) (vc2 - r1.toNat))) H_1 (.string s) ∧
  K (.string s) H_1)

def code_Reader_Text.code (rb : Nat) (ro : Nat) (most : Int) (H : Heap) (K : Value → Heap → Prop) : Prop :=
  ∃ va : Option Addr, ∃ vn : Nat, ∃ vc : Nat, cellAt H rb ro = some (.slice va vn vc) ∧
  ∃ r : Int, ∃ r1 : Int, ∃ r2 : Int, CallQ Tryz.prog 73 #[(.slice va vn vc), (.int .i64 most)] H (.tuple #[(.int .i64 r), (.int .i64 r1), (.int .i64 r2)]) ∧
  (((decide (r2 = 0)) = true) → True) ∧
  ∃ va1 : Option Addr, ∃ vn1 : Nat, ∃ vc1 : Nat, (((decide (r2 = 0)) = true) → cellAt H rb ro = some (.slice va1 vn1 vc1)) ∧
  ∀ Jn : Int → Heap → Prop, (∀ (err : Int), ∀ H_ : Heap, code_Reader_Text.r1 rb ro K r r1 err H_ → Jn err H_) →
  ((((decide (r2 = 0)) && (decide ((IntKind.i64.wrap ((vn1 : Int) - r1)) < r)))) = true →
  Jn 15 H) ∧
  ((((decide (r2 = 0)) && (decide ((IntKind.i64.wrap ((vn1 : Int) - r1)) < r)))) = false →
  Jn r2 H)

def code_Reader_Text.ann : Ann := (.seq .reg (.seq .reg (.seq (.seq .reg (.condJ [(7, .one (.int .i64))] .reg .no)) (.seq .reg (.seq (.seq .reg (.cond (.seq .reg .no) .no)) (.seq .reg .no))))))

theorem code_Reader_Text.eq (rb : Nat) (ro : Nat) (most : Int) (H : Heap) (K : Value → Heap → Prop) : vcFun X Tryz.f60 code_Reader_Text.ann [(.pointer (some ⟨rb, ro, none⟩)), (.int .i64 most)] H K = code_Reader_Text.code rb ro most H K := by kernel_rfl

theorem code_Reader_Text.call {rb : Nat} {ro : Nat} {most : Int} {H : Heap} {K : Value → Heap → Prop} (h : code_Reader_Text.code rb ro most H K) : CallF Tryz.prog 60 #[(.pointer (some ⟨rb, ro, none⟩)), (.int .i64 most)] H K :=
  callF_of_eq (X := X) X_P X_wide X_bodied Tryz.func60 (code_Reader_Text.eq rb ro most H K) h

def code_Reader_Left.code (rb : Nat) (ro : Nat) (H : Heap) (K : Value → Heap → Prop) : Prop :=
  ∃ va : Option Addr, ∃ vn : Nat, ∃ vc : Nat, cellAt H rb ro = some (.slice va vn vc) ∧
  K (.int .i64 (vn : Int)) H

def code_Reader_Left.ann : Ann := (.seq .reg (.seq .reg .no))

theorem code_Reader_Left.eq (rb : Nat) (ro : Nat) (H : Heap) (K : Value → Heap → Prop) : vcFun X Tryz.f59 code_Reader_Left.ann [(.pointer (some ⟨rb, ro, none⟩))] H K = code_Reader_Left.code rb ro H K := by kernel_rfl

theorem code_Reader_Left.call {rb : Nat} {ro : Nat} {H : Heap} {K : Value → Heap → Prop} (h : code_Reader_Left.code rb ro H K) : CallF Tryz.prog 59 #[(.pointer (some ⟨rb, ro, none⟩))] H K :=
  callF_of_eq (X := X) X_P X_wide X_bodied Tryz.func59 (code_Reader_Left.eq rb ro H K) h

def code_New.code (ba : Option Addr) (bn : Nat) (bc : Nat) (H : Heap) (K : Value → Heap → Prop) : Prop :=
  CallF Tryz.prog 53 #[(.slice ba bn bc)] H fun u H_ => ∃ ra : Option Addr, ∃ rn : Nat, ∃ rc : Nat, u = (.slice ra rn rc) ∧
  ∀ (b : Nat) (H_1 : Heap), b = H_.size → H_1 = H_.push (.cells #[(.slice ra rn rc), (.int .i64 0)] 132) →
  K (.pointer (some ⟨b, 0, none⟩)) H_1

def code_New.ann : Ann := (.seq .reg (.seq .reg .no))

theorem code_New.eq (ba : Option Addr) (bn : Nat) (bc : Nat) (H : Heap) (K : Value → Heap → Prop) : vcFun X Tryz.f58 code_New.ann [(.slice ba bn bc)] H K = code_New.code ba bn bc H K := by kernel_rfl

theorem code_New.call {ba : Option Addr} {bn : Nat} {bc : Nat} {H : Heap} {K : Value → Heap → Prop} (h : code_New.code ba bn bc H K) : CallF Tryz.prog 58 #[(.slice ba bn bc)] H K :=
  callF_of_eq (X := X) X_P X_wide X_bodied Tryz.func58 (code_New.eq ba bn bc H K) h

def R06_Uint.l1 (K : Value → Heap → Prop) (Inv : Int → (Option Addr) → Nat → Nat → Heap → Prop) (mu : Int → (Option Addr) → Nat → Nat → Heap → Nat) (v1 : Int) (outa : Option Addr) (outn : Nat) (outc : Nat) (H_1 : Heap) : Prop :=
  (((decide (128 ≤ v1))) = true →
  ((128 : Int) ≠ 0) ∧
  ∀ (b1 : Nat) (H_2 : Heap), b1 = H_1.size → H_2 = H_1.push (.cells #[(.int .u8 (IntKind.u8.wrap (IntKind.u64.wrap (128 + (Int.tmod v1 128)))))] 5) →
  RunW Tryz.prog (Builtin.append_ #[32, 32] 32 #[(.slice outa outn outc), (.slice (some ⟨b1, 0, none⟩) 1 1)]) H_2 fun u H_3 =>
  ∃ sa : Option Addr, ∃ sn : Nat, ∃ sc : Nat, u = (.slice sa sn sc) ∧
  ((128 : Int) ≠ 0) ∧
  Inv (IntKind.u64.wrap (Int.tdiv v1 128)) sa sn sc H_3 ∧ mu (IntKind.u64.wrap (Int.tdiv v1 128)) sa sn sc H_3 < mu v1 outa outn outc H_1) ∧
  (((decide (128 ≤ v1))) = false →
  ∀ (b2 : Nat) (H_4 : Heap), b2 = H_1.size → H_4 = H_1.push (.cells #[(.int .u8 (IntKind.u8.wrap v1))] 5) →
  RunW Tryz.prog (Builtin.append_ #[32, 32] 32 #[(.slice outa outn outc), (.slice (some ⟨b2, 0, none⟩) 1 1)]) H_4 fun u1 H_5 =>
  ∃ sa1 : Option Addr, ∃ sn1 : Nat, ∃ sc1 : Nat, u1 = (.slice sa1 sn1 sc1) ∧
  K (.slice sa1 sn1 sc1) H_5)

def R06_Uint.code (v : Int) (H : Heap) (K : Value → Heap → Prop) : Prop :=
  ∀ (b : Nat) (H_ : Heap), b = H.size → H_ = H.push (.cells #[] 5) →
  ∃ (Inv : Int → (Option Addr) → Nat → Nat → Heap → Prop) (mu : Int → (Option Addr) → Nat → Nat → Heap → Nat), Inv v (some ⟨b, 0, none⟩) 0 0 H_ ∧
  ∀ (v1 : Int) (outa : Option Addr) (outn : Nat) (outc : Nat), ∀ H_1 : Heap, Inv v1 outa outn outc H_1 → R06_Uint.l1 K Inv mu v1 outa outn outc H_1

def R06_Uint.ann : Ann := (.seq .reg (.seq .reg (.seq (.blk (.loop [(0, .one (.int .u64)), (3, .one (.slice))] (.seq (.seq .reg (.cond .no .no)) (.blk (.seq .reg .reg))))) (.seq .reg .no))))

theorem R06_Uint.eq (v : Int) (H : Heap) (K : Value → Heap → Prop) : vcFun X Tryz.f80 R06_Uint.ann [(.int .u64 v)] H K = R06_Uint.code v H K := by kernel_rfl

theorem R06_Uint.call {v : Int} {H : Heap} {K : Value → Heap → Prop} (h : R06_Uint.code v H K) : CallF Tryz.prog 80 #[(.int .u64 v)] H K :=
  callF_of_eq (X := X) X_P X_wide X_bodied Tryz.func80 (R06_Uint.eq v H K) h

def R07_Seal.code (ba : Option Addr) (bn : Nat) (bc : Nat) (H : Heap) (K : Value → Heap → Prop) : Prop :=
  ∃ r : Int, CallQ Tryz.prog 99 #[(.slice ba bn bc)] H (.int .u32 r) ∧
  ∀ (b : Nat) (H_ : Heap), b = H.size → H_ = H.push (.cells #[] 5) →
  RunW Tryz.prog (Builtin.append_ #[32, 32] 32 #[(.slice (some ⟨b, 0, none⟩) 0 0), (.slice ba bn bc)]) H_ fun u H_1 =>
  ∃ sa : Option Addr, ∃ sn : Nat, ∃ sc : Nat, u = (.slice sa sn sc) ∧
  ((256 : Int) ≠ 0) ∧
  ((65536 : Int) ≠ 0) ∧
  ((16777216 : Int) ≠ 0) ∧
  ∀ (b1 : Nat) (H_2 : Heap), b1 = H_1.size → H_2 = H_1.push (.cells #[(.int .u8 (IntKind.u8.wrap r)), (.int .u8 (IntKind.u8.wrap (IntKind.u32.wrap (Int.tdiv r 256)))), (.int .u8 (IntKind.u8.wrap (IntKind.u32.wrap (Int.tdiv r 65536)))), (.int .u8 (IntKind.u8.wrap (IntKind.u32.wrap (Int.tdiv r 16777216))))] 5) →
  RunW Tryz.prog (Builtin.append_ #[32, 32] 32 #[(.slice sa sn sc), (.slice (some ⟨b1, 0, none⟩) 4 4)]) H_2 fun u1 H_3 =>
  ∃ sa1 : Option Addr, ∃ sn1 : Nat, ∃ sc1 : Nat, u1 = (.slice sa1 sn1 sc1) ∧
  K (.slice sa1 sn1 sc1) H_3

def R07_Seal.ann : Ann := (.seq .reg (.seq .reg (.seq .reg .no)))

theorem R07_Seal.eq (ba : Option Addr) (bn : Nat) (bc : Nat) (H : Heap) (K : Value → Heap → Prop) : vcFun X Tryz.f79 R07_Seal.ann [(.slice ba bn bc)] H K = R07_Seal.code ba bn bc H K := by kernel_rfl

theorem R07_Seal.call {ba : Option Addr} {bn : Nat} {bc : Nat} {H : Heap} {K : Value → Heap → Prop} (h : R07_Seal.code ba bn bc H K) : CallF Tryz.prog 79 #[(.slice ba bn bc)] H K :=
  callF_of_eq (X := X) X_P X_wide X_bodied Tryz.func79 (R07_Seal.eq ba bn bc H K) h

def code_Uints.l1 (lista : Option Addr) (listn : Nat) (K : Value → Heap → Prop) (Inv : (Option Addr) → Nat → Nat → Int → Heap → Prop) (mu : (Option Addr) → Nat → Nat → Int → Heap → Nat) (ba : Option Addr) (bn : Nat) (bc : Nat) (t8 : Int) (H_ : Heap) : Prop :=
  (((decide (t8 < (listn : Int)))) = true →
  ((0 : Int) ≤ t8 ∧ t8 < (listn : Int)) ∧ ∃ b o : Nat, (lista = some ⟨b, o, none⟩) ∧
  ∃ v : Int, cellAt H_ b (o + t8.toNat) = some (.int .u64 v) ∧
  CallF Tryz.prog 94 #[(.slice ba bn bc), (.int .u64 v)] H_ fun u H_1 => ∃ ra : Option Addr, ∃ rn : Nat, ∃ rc : Nat, u = (.slice ra rn rc) ∧
  Inv ra rn rc (IntKind.i64.wrap (t8 + 1)) H_1 ∧ mu ra rn rc (IntKind.i64.wrap (t8 + 1)) H_1 < mu ba bn bc t8 H_) ∧
  (((decide (t8 < (listn : Int)))) = false →
  K (.slice ba bn bc) H_)

def code_Uints.code (lista : Option Addr) (listn : Nat) (listc : Nat) (H : Heap) (K : Value → Heap → Prop) : Prop :=
  ∃ (Inv : (Option Addr) → Nat → Nat → Int → Heap → Prop) (mu : (Option Addr) → Nat → Nat → Int → Heap → Nat), Inv none 0 0 0 H ∧
  ∀ (ba : Option Addr) (bn : Nat) (bc : Nat) (t8 : Int), ∀ H_ : Heap, Inv ba bn bc t8 H_ → code_Uints.l1 lista listn K Inv mu ba bn bc t8 H_

def code_Uints.ann : Ann := (.seq .reg (.seq .reg (.seq (.seq .reg (.blk (.loop [(3, .one (.slice)), (8, .one (.int .i64))] (.seq .reg (.seq (.cond .no .no) (.seq (.blk (.seq .reg .reg)) .reg)))))) (.seq .reg .no))))

theorem code_Uints.eq (lista : Option Addr) (listn : Nat) (listc : Nat) (H : Heap) (K : Value → Heap → Prop) : vcFun X Tryz.f71 code_Uints.ann [(.slice lista listn listc)] H K = code_Uints.code lista listn listc H K := by kernel_rfl

theorem code_Uints.call {lista : Option Addr} {listn : Nat} {listc : Nat} {H : Heap} {K : Value → Heap → Prop} (h : code_Uints.code lista listn listc H K) : CallF Tryz.prog 71 #[(.slice lista listn listc)] H K :=
  callF_of_eq (X := X) X_P X_wide X_bodied Tryz.func71 (code_Uints.eq lista listn listc H K) h

def crc_Seal.code (partsa : Option Addr) (partsn : Nat) (partsc : Nat) (H : Heap) (K : Value → Heap → Prop) : Prop :=
  ∃ r : Int, CallQ Tryz.prog 92 #[(.slice partsa partsn partsc)] H (.int .u32 r) ∧
  CallF Tryz.prog 93 #[(.slice partsa partsn partsc), (.slice none 0 0)] H fun u H_ => ∃ ra : Option Addr, ∃ rn : Nat, ∃ rc : Nat, u = (.slice ra rn rc) ∧
  ((0 : Int) ≤ 8) ∧
  ((0 : Int) ≤ 16) ∧
  ((0 : Int) ≤ 24) ∧
  ∀ (b : Nat) (H_1 : Heap), b = H_.size → H_1 = H_.push (.cells #[(.int .u8 (IntKind.u8.wrap r)), (.int .u8 (IntKind.u8.wrap (Int.fdiv r (2 ^ (min (Int.toNat 8) (IntKind.u32.bits)))))), (.int .u8 (IntKind.u8.wrap (Int.fdiv r (2 ^ (min (Int.toNat 16) (IntKind.u32.bits)))))), (.int .u8 (IntKind.u8.wrap (Int.fdiv r (2 ^ (min (Int.toNat 24) (IntKind.u32.bits))))))] 5) →
  RunW Tryz.prog (Builtin.append_ #[32, 32] 32 #[(.slice ra rn rc), (.slice (some ⟨b, 0, none⟩) 4 4)]) H_1 fun u1 H_2 =>
  ∃ sa : Option Addr, ∃ sn : Nat, ∃ sc : Nat, u1 = (.slice sa sn sc) ∧
  K (.slice sa sn sc) H_2

def crc_Seal.ann : Ann := (.seq .reg (.seq .reg (.seq .reg (.seq .reg .no))))

theorem crc_Seal.eq (partsa : Option Addr) (partsn : Nat) (partsc : Nat) (H : Heap) (K : Value → Heap → Prop) : vcFun X Tryz.f70 crc_Seal.ann [(.slice partsa partsn partsc)] H K = crc_Seal.code partsa partsn partsc H K := by kernel_rfl

theorem crc_Seal.call {partsa : Option Addr} {partsn : Nat} {partsc : Nat} {H : Heap} {K : Value → Heap → Prop} (h : crc_Seal.code partsa partsn partsc H K) : CallF Tryz.prog 70 #[(.slice partsa partsn partsc)] H K :=
  callF_of_eq (X := X) X_P X_wide X_bodied Tryz.func70 (crc_Seal.eq partsa partsn partsc H K) h

def reel_Drop.r1 (Inv : Int → Heap → Prop) (mu : Int → Heap → Nat) (t19 : Int) (H_2 : Heap) (H_3 : Heap) : Prop :=
  Inv (IntKind.i64.wrap (t19 + 1)) H_3 ∧ mu (IntKind.i64.wrap (t19 + 1)) H_3 < mu t19 H_2

def reel_Drop.l2 (rb : Nat) (ro : Nat) (below : Int) (K : Value → Heap → Prop) (ra : Option Addr) (rn : Nat) (Inv : Int → Heap → Prop) (mu : Int → Heap → Nat) (t19 : Int) (H_2 : Heap) : Prop :=
  (((decide (t19 < (rn : Int)))) = true →
  ((0 : Int) ≤ t19 ∧ t19 < (rn : Int)) ∧ ∃ b o : Nat, (ra = some ⟨b, o, none⟩) ∧
  ∃ v2 : Int, cellAt H_2 b (o + t19.toNat) = some (.int .i64 v2) ∧
  ∀ Jn : Heap → Prop, (∀ H_3 : Heap, reel_Drop.r1 Inv mu t19 H_2 H_3 → Jn H_3) →
  (((decide (v2 < below))) = true →
  ∃ v3 : Option Addr, cellAt H_2 rb ro = some (.pointer v3) ∧
  CallF Tryz.prog 57 #[(.pointer v3), (.int .i64 v2)] H_2 fun u2 H_4 => ∃ r1 : Int, u2 = (.int .i64 r1) ∧
  Jn H_4) ∧
  (((decide (v2 < below))) = false →
  Jn H_2)) ∧
  (((decide (t19 < (rn : Int)))) = false →
  K (.int .i64 0) H_2)

def reel_Drop.code (rb : Nat) (ro : Nat) (below : Int) (H : Heap) (K : Value → Heap → Prop) : Prop :=
  ∃ v : Option Addr, cellAt H rb ro = some (.pointer v) ∧
  CallF Tryz.prog 34 #[(.pointer v)] H fun u H_ => ∃ r : Int, u = (.int .i64 r) ∧
  (((decide (0 < r))) = true →
  K (.int .i64 21) H_) ∧
  (((decide (0 < r))) = false →
  ∃ v1 : Option Addr, cellAt H_ rb ro = some (.pointer v1) ∧
  CallF Tryz.prog 33 #[(.pointer v1)] H_ fun u1 H_1 => ∃ ra : Option Addr, ∃ rn : Nat, ∃ rc : Nat, u1 = (.slice ra rn rc) ∧
  ∃ (Inv : Int → Heap → Prop) (mu : Int → Heap → Nat), Inv 0 H_1 ∧
  ∀ (t19 : Int), ∀ H_2 : Heap, Inv t19 H_2 → reel_Drop.l2 rb ro below K ra rn Inv mu t19 H_2)

def reel_Drop.ann : Ann := (.seq .reg (.seq (.seq .reg (.cond (.seq .reg .no) .no)) (.seq (.seq .reg (.blk (.loop [(19, .one (.int .i64))] (.seq .reg (.seq (.cond .no .no) (.seq (.blk (.seq .reg (.seq .reg (.condJ [] .reg .no)))) .reg)))))) (.seq .reg .no))))

theorem reel_Drop.eq (rb : Nat) (ro : Nat) (below : Int) (H : Heap) (K : Value → Heap → Prop) : vcFun X Tryz.f40 reel_Drop.ann [(.pointer (some ⟨rb, ro, none⟩)), (.int .i64 below)] H K = reel_Drop.code rb ro below H K := by kernel_rfl

theorem reel_Drop.call {rb : Nat} {ro : Nat} {below : Int} {H : Heap} {K : Value → Heap → Prop} (h : reel_Drop.code rb ro below H K) : CallF Tryz.prog 40 #[(.pointer (some ⟨rb, ro, none⟩)), (.int .i64 below)] H K :=
  callF_of_eq (X := X) X_P X_wide X_bodied Tryz.func40 (reel_Drop.eq rb ro below H K) h

def reel_Turn.code (rb : Nat) (ro : Nat) (H : Heap) (K : Value → Heap → Prop) : Prop :=
  ∃ v : Int, cellAt H rb (ro + 2) = some (.int .i64 v) ∧
  (((decide (v = 2147483647))) = true →
  K (.tuple #[(.int .i64 (-1)), (.int .i64 20)]) H) ∧
  (((decide (v = 2147483647))) = false →
  ∃ v1 : Int, cellAt H rb (ro + 2) = some (.int .i64 v1) ∧
  canSet H rb (ro + 2) [(.int .i64 (IntKind.i64.wrap (v1 + 1)))] ∧
  ∀ H_ : Heap, H_ = setAll H rb (ro + 2) [(.int .i64 (IntKind.i64.wrap (v1 + 1)))] →
  ∃ v2 : Int, cellAt H_ rb (ro + 2) = some (.int .i64 v2) ∧
  K (.tuple #[(.int .i64 v2), (.int .i64 0)]) H_)

def reel_Turn.ann : Ann := (.seq .reg (.seq (.seq .reg (.cond (.seq .reg .no) .no)) (.seq .reg (.seq .reg .no))))

theorem reel_Turn.eq (rb : Nat) (ro : Nat) (H : Heap) (K : Value → Heap → Prop) : vcFun X Tryz.f39 reel_Turn.ann [(.pointer (some ⟨rb, ro, none⟩))] H K = reel_Turn.code rb ro H K := by kernel_rfl

theorem reel_Turn.call {rb : Nat} {ro : Nat} {H : Heap} {K : Value → Heap → Prop} (h : reel_Turn.code rb ro H K) : CallF Tryz.prog 39 #[(.pointer (some ⟨rb, ro, none⟩))] H K :=
  callF_of_eq (X := X) X_P X_wide X_bodied Tryz.func39 (reel_Turn.eq rb ro H K) h

def reel_Sync.code (rb : Nat) (ro : Nat) (H : Heap) (K : Value → Heap → Prop) : Prop :=
  ∃ v : Option Addr, cellAt H rb ro = some (.pointer v) ∧
  CallF Tryz.prog 41 #[(.pointer v)] H fun u H_ => u = (.tuple #[]) ∧
  ∃ v1 : Int, cellAt H_ rb (ro + 3) = some (.int .i64 v1) ∧
  canSet H_ rb (ro + 4) [(.int .i64 v1)] ∧
  ∀ H_1 : Heap, H_1 = setAll H_ rb (ro + 4) [(.int .i64 v1)] →
  K (.tuple #[]) H_1

def reel_Sync.ann : Ann := (.seq .reg .reg)

theorem reel_Sync.eq (rb : Nat) (ro : Nat) (H : Heap) (K : Value → Heap → Prop) : vcFun X Tryz.f17 reel_Sync.ann [(.pointer (some ⟨rb, ro, none⟩))] H K = reel_Sync.code rb ro H K := by kernel_rfl

theorem reel_Sync.call {rb : Nat} {ro : Nat} {H : Heap} {K : Value → Heap → Prop} (h : reel_Sync.code rb ro H K) : CallF Tryz.prog 17 #[(.pointer (some ⟨rb, ro, none⟩))] H K :=
  callF_of_eq (X := X) X_P X_wide X_bodied Tryz.func17 (reel_Sync.eq rb ro H K) h

def reel_Append.r1 (rb : Nat) (ro : Nat) (K : Value → Heap → Prop) (ra1 : Option Addr) (rn1 : Nat) (rc1 : Nat) (H_3 : Heap) : Prop :=
  ∃ v3 : Option Addr, cellAt H_3 rb ro = some (.pointer v3) ∧
  ∃ v4 : Int, cellAt H_3 rb (ro + 2) = some (.int .i64 v4) ∧
  ∀ (b : Nat) (H_4 : Heap), b = H_3.size → H_4 = H_3.push (.cells #[(.slice ra1 rn1 rc1)] 32) →
  cellAt H_4 rb (ro + 2) = some (.int .i64 v4) ∧
  cellAt H_4 rb ro = some (.pointer v3) ∧
  CallF Tryz.prog 56 #[(.pointer v3), (.int .i64 v4), (.slice (some ⟨b, 0, none⟩) 1 1)] H_4 fun u3 H_5 => ∃ r2 : Int, u3 = (.int .i64 r2) ∧
  (((!decide (r2 = 0))) = true →
  K (.tuple #[(.int .i64 (-1)), (.int .i64 r2)]) H_5) ∧
  (((!decide (r2 = 0))) = false →
  ∃ v5 : Int, cellAt H_5 rb (ro + 3) = some (.int .i64 v5) ∧
  canSet H_5 rb (ro + 3) [(.int .i64 (IntKind.i64.wrap (v5 + 1)))] ∧
  ∀ H_6 : Heap, H_6 = setAll H_5 rb (ro + 3) [(.int .i64 (IntKind.i64.wrap (v5 + 1)))] →
  ∃ v6 : Int, cellAt H_6 rb (ro + 3) = some (.int .i64 v6) ∧
  K (.tuple #[(.int .i64 (IntKind.i64.wrap (v6 - 1))), (.int .i64 0)]) H_6)

def reel_Append.code (rb : Nat) (ro : Nat) (kind : Int) (dataa : Option Addr) (datan : Nat) (datac : Nat) (H : Heap) (K : Value → Heap → Prop) : Prop :=
  CallF Tryz.prog 55 #[(.slice dataa datan datac)] H fun u H_ => ∃ ra : Option Addr, ∃ rn : Nat, ∃ rc : Nat, u = (.slice ra rn rc) ∧
  CallF Tryz.prog 54 #[(.agg #[(.int .i64 kind), (.slice ra rn rc)])] H_ fun u1 H_1 => ∃ ra1 : Option Addr, ∃ rn1 : Nat, ∃ rc1 : Nat, ∃ r : Int, u1 = (.tuple #[(.slice ra1 rn1 rc1), (.int .i64 r)]) ∧
  (((!decide (r = 0))) = true →
  K (.tuple #[(.int .i64 (-1)), (.int .i64 r)]) H_1) ∧
  (((!decide (r = 0))) = false →
  ∃ v : Option Addr, cellAt H_1 rb ro = some (.pointer v) ∧
  ∃ v1 : Int, cellAt H_1 rb (ro + 2) = some (.int .i64 v1) ∧
  CallF Tryz.prog 36 #[(.pointer v), (.int .i64 v1)] H_1 fun u2 H_2 => ∃ ra2 : Option Addr, ∃ rn2 : Nat, ∃ rc2 : Nat, ∃ r1 : Int, u2 = (.tuple #[(.slice ra2 rn2 rc2), (.int .i64 r1)]) ∧
  (((decide (0 < (rn2 : Int))) = true) → True) ∧
  ∃ v2 : Int, (((decide (0 < (rn2 : Int))) = true) → cellAt H_2 rb (ro + 1) = some (.int .i64 v2)) ∧
  ∀ Jn : Heap → Prop, (∀ H_3 : Heap, reel_Append.r1 rb ro K ra1 rn1 rc1 H_3 → Jn H_3) →
  ((((decide (0 < (rn2 : Int))) && (decide (v2 < (IntKind.i64.wrap ((rn2 : Int) + (rn1 : Int))))))) = true →
  CallF Tryz.prog 39 #[(.pointer (some ⟨rb, ro, none⟩))] H_2 fun u4 H_7 => ∃ r3 : Int, ∃ r4 : Int, u4 = (.tuple #[(.int .i64 r3), (.int .i64 r4)]) ∧
  (((!decide (r4 = 0))) = true →
  K (.tuple #[(.int .i64 (-1)), (.int .i64 r4)]) H_7) ∧
  (((!decide (r4 = 0))) = false →
  Jn H_7)) ∧
  ((((decide (0 < (rn2 : Int))) && (decide (v2 < (IntKind.i64.wrap ((rn2 : Int) + (rn1 : Int))))))) = false →
  Jn H_2))

def reel_Append.ann : Ann := (.seq .reg (.seq .reg (.seq (.seq .reg (.cond (.seq .reg .no) .no)) (.seq .reg (.seq (.seq .reg (.condJ [] (.seq .reg (.seq .reg (.cond (.seq .reg .no) .no))) .no)) (.seq (.seq .reg (.seq .reg (.cond (.seq .reg .no) .no))) (.seq .reg (.seq .reg .no))))))))

theorem reel_Append.eq (rb : Nat) (ro : Nat) (kind : Int) (dataa : Option Addr) (datan : Nat) (datac : Nat) (H : Heap) (K : Value → Heap → Prop) : vcFun X Tryz.f38 reel_Append.ann [(.pointer (some ⟨rb, ro, none⟩)), (.int .i64 kind), (.slice dataa datan datac)] H K = reel_Append.code rb ro kind dataa datan datac H K := by kernel_rfl

theorem reel_Append.call {rb : Nat} {ro : Nat} {kind : Int} {dataa : Option Addr} {datan : Nat} {datac : Nat} {H : Heap} {K : Value → Heap → Prop} (h : reel_Append.code rb ro kind dataa datan datac H K) : CallF Tryz.prog 38 #[(.pointer (some ⟨rb, ro, none⟩)), (.int .i64 kind), (.slice dataa datan datac)] H K :=
  callF_of_eq (X := X) X_P X_wide X_bodied Tryz.func38 (reel_Append.eq rb ro kind dataa datan datac H K) h

def reel_Segment.code (rb : Nat) (ro : Nat) (H : Heap) (K : Value → Heap → Prop) : Prop :=
  ∃ v : Int, cellAt H rb (ro + 2) = some (.int .i64 v) ∧
  K (.int .i64 v) H

def reel_Segment.ann : Ann := (.seq .reg (.seq .reg .no))

theorem reel_Segment.eq (rb : Nat) (ro : Nat) (H : Heap) (K : Value → Heap → Prop) : vcFun X Tryz.f13 reel_Segment.ann [(.pointer (some ⟨rb, ro, none⟩))] H K = reel_Segment.code rb ro H K := by kernel_rfl

theorem reel_Segment.call {rb : Nat} {ro : Nat} {H : Heap} {K : Value → Heap → Prop} (h : reel_Segment.code rb ro H K) : CallF Tryz.prog 13 #[(.pointer (some ⟨rb, ro, none⟩))] H K :=
  callF_of_eq (X := X) X_P X_wide X_bodied Tryz.func13 (reel_Segment.eq rb ro H K) h

def reel_Synced.code (rb : Nat) (ro : Nat) (H : Heap) (K : Value → Heap → Prop) : Prop :=
  ∃ v : Int, cellAt H rb (ro + 4) = some (.int .i64 v) ∧
  K (.int .i64 v) H

def reel_Synced.ann : Ann := (.seq .reg (.seq .reg .no))

theorem reel_Synced.eq (rb : Nat) (ro : Nat) (H : Heap) (K : Value → Heap → Prop) : vcFun X Tryz.f12 reel_Synced.ann [(.pointer (some ⟨rb, ro, none⟩))] H K = reel_Synced.code rb ro H K := by kernel_rfl

theorem reel_Synced.call {rb : Nat} {ro : Nat} {H : Heap} {K : Value → Heap → Prop} (h : reel_Synced.code rb ro H K) : CallF Tryz.prog 12 #[(.pointer (some ⟨rb, ro, none⟩))] H K :=
  callF_of_eq (X := X) X_P X_wide X_bodied Tryz.func12 (reel_Synced.eq rb ro H K) h

def reel_Next.code (rb : Nat) (ro : Nat) (H : Heap) (K : Value → Heap → Prop) : Prop :=
  ∃ v : Int, cellAt H rb (ro + 3) = some (.int .i64 v) ∧
  K (.int .i64 v) H

def reel_Next.ann : Ann := (.seq .reg (.seq .reg .no))

theorem reel_Next.eq (rb : Nat) (ro : Nat) (H : Heap) (K : Value → Heap → Prop) : vcFun X Tryz.f11 reel_Next.ann [(.pointer (some ⟨rb, ro, none⟩))] H K = reel_Next.code rb ro H K := by kernel_rfl

theorem reel_Next.call {rb : Nat} {ro : Nat} {H : Heap} {K : Value → Heap → Prop} (h : reel_Next.code rb ro H K) : CallF Tryz.prog 11 #[(.pointer (some ⟨rb, ro, none⟩))] H K :=
  callF_of_eq (X := X) X_P X_wide X_bodied Tryz.func11 (reel_Next.eq rb ro H K) h

def R11_Open.r1 (db : Nat) (do_ : Nat) (K : Value → Heap → Prop) (b : Nat) (H_2 : Heap) : Prop :=
  ∃ v : Int, cellAt H_2 b 2 = some (.int .i64 v) ∧
  (((decide (2147483647 < v))) = true →
  K (.tuple #[(.pointer none), (.slice none 0 0), (.int .i64 20)]) H_2) ∧
  (((decide (2147483647 < v))) = false →
  CallF Tryz.prog 44 #[(.pointer (some ⟨db, do_, none⟩))] H_2 fun u1 H_3 => ∃ ra1 : Option Addr, ∃ rn1 : Nat, ∃ rc1 : Nat, u1 = (.slice ra1 rn1 rc1) ∧
  canSet H_3 b 3 [(.int .i64 (rn1 : Int))] ∧
  ∀ H_4 : Heap, H_4 = setAll H_3 b 3 [(.int .i64 (rn1 : Int))] →
  canSet H_4 b 4 [(.int .i64 (rn1 : Int))] ∧
  ∀ H_5 : Heap, H_5 = setAll H_4 b 4 [(.int .i64 (rn1 : Int))] →
  K (.tuple #[(.pointer (some ⟨b, 0, none⟩)), (.slice ra1 rn1 rc1), (.int .i64 0)]) H_5)

def R11_Open.code (db : Nat) (do_ : Nat) (most : Int) (H : Heap) (K : Value → Heap → Prop) : Prop :=
  ((((decide (most < 64)) || (decide (1048576 < most)))) = true →
  K (.tuple #[(.pointer none), (.slice none 0 0), (.int .i64 11)]) H) ∧
  ((((decide (most < 64)) || (decide (1048576 < most)))) = false →
  CallF Tryz.prog 31 #[(.pointer (some ⟨db, do_, none⟩))] H fun u H_ => ∃ ra : Option Addr, ∃ rn : Nat, ∃ rc : Nat, u = (.slice ra rn rc) ∧
  ∀ (b : Nat) (H_1 : Heap), b = H_.size → H_1 = H_.push (.cells #[(.pointer (some ⟨db, do_, none⟩)), (.int .i64 most), (.int .i64 0), (.int .i64 0), (.int .i64 0)] 53) →
  ∀ Jn : Heap → Prop, (∀ H_2 : Heap, R11_Open.r1 db do_ K b H_2 → Jn H_2) →
  (((decide (0 < (rn : Int)))) = true →
  ((0 : Int) ≤ (IntKind.i64.wrap ((rn : Int) - 1)) ∧ (IntKind.i64.wrap ((rn : Int) - 1)) < (rn : Int)) ∧ ∃ b1 o : Nat, (ra = some ⟨b1, o, none⟩) ∧
  ∃ v1 : Int, cellAt H_1 b1 (o + (IntKind.i64.wrap ((rn : Int) - 1)).toNat) = some (.int .i64 v1) ∧
  canSet H_1 b 2 [(.int .i64 (IntKind.i64.wrap (v1 + 1)))] ∧
  ∀ H_6 : Heap, H_6 = setAll H_1 b 2 [(.int .i64 (IntKind.i64.wrap (v1 + 1)))] →
  Jn H_6) ∧
  (((decide (0 < (rn : Int)))) = false →
  Jn H_1))

def R11_Open.ann : Ann := (.seq .reg (.seq (.seq .reg (.cond (.seq .reg .no) .no)) (.seq .reg (.seq .reg (.seq (.seq .reg (.condJ [] .reg .no)) (.seq (.seq .reg (.cond (.seq .reg .no) .no)) (.seq .reg (.seq .reg (.seq .reg (.seq .reg .no))))))))))

theorem R11_Open.eq (db : Nat) (do_ : Nat) (most : Int) (H : Heap) (K : Value → Heap → Prop) : vcFun X Tryz.f22 R11_Open.ann [(.pointer (some ⟨db, do_, none⟩)), (.int .i64 most)] H K = R11_Open.code db do_ most H K := by kernel_rfl

theorem R11_Open.call {db : Nat} {do_ : Nat} {most : Int} {H : Heap} {K : Value → Heap → Prop} (h : R11_Open.code db do_ most H K) : CallF Tryz.prog 22 #[(.pointer (some ⟨db, do_, none⟩)), (.int .i64 most)] H K :=
  callF_of_eq (X := X) X_P X_wide X_bodied Tryz.func22 (R11_Open.eq db do_ most H K) h

def reel_Open.l1 (db : Nat) (do_ : Nat) (most : Int) (K : Value → Heap → Prop) (ra : Option Addr) (rn : Nat) (segment : Int) (Inv : (Option Addr) → Nat → Nat → Int → Heap → Prop) (mu : (Option Addr) → Nat → Nat → Int → Heap → Nat) (lista : Option Addr) (listn : Nat) (listc : Nat) (t38 : Int) (H_2 : Heap) : Prop :=
  (((decide (t38 < (rn : Int)))) = true →
  ((0 : Int) ≤ t38 ∧ t38 < (rn : Int)) ∧ ∃ b o : Nat, (ra = some ⟨b, o, none⟩) ∧
  ∃ v : Int, cellAt H_2 b (o + t38.toNat) = some (.int .i64 v) ∧
  CallF Tryz.prog 36 #[(.pointer (some ⟨db, do_, none⟩)), (.int .i64 v)] H_2 fun u1 H_3 => ∃ ra1 : Option Addr, ∃ rn1 : Nat, ∃ rc1 : Nat, ∃ r : Int, u1 = (.tuple #[(.slice ra1 rn1 rc1), (.int .i64 r)]) ∧
  CallF Tryz.prog 42 #[(.slice ra1 rn1 rc1)] H_3 fun u2 H_4 => ∃ ra2 : Option Addr, ∃ rn2 : Nat, ∃ rc2 : Nat, ∃ r1 : Int, u2 = (.tuple #[(.slice ra2 rn2 rc2), (.int .i64 r1)]) ∧
  RunW Tryz.prog (Builtin.append_ #[33, 33] 33 #[(.slice lista listn listc), (.slice ra2 rn2 rc2)]) H_4 fun u3 H_5 =>
  ∃ sa : Option Addr, ∃ sn : Nat, ∃ sc : Nat, u3 = (.slice sa sn sc) ∧
  Inv sa sn sc (IntKind.i64.wrap (t38 + 1)) H_5 ∧ mu sa sn sc (IntKind.i64.wrap (t38 + 1)) H_5 < mu lista listn listc t38 H_2) ∧
  (((decide (t38 < (rn : Int)))) = false →
  ∀ (b1 : Nat) (H_6 : Heap), b1 = H_2.size → H_6 = H_2.push (.cells #[(.pointer (some ⟨db, do_, none⟩)), (.int .i64 most), (.int .i64 segment), (.int .i64 (listn : Int)), (.int .i64 (listn : Int))] 89) →
  K (.tuple #[(.pointer (some ⟨b1, 0, none⟩)), (.slice lista listn listc), (.int .i64 0)]) H_6)

def reel_Open.r2 (db : Nat) (do_ : Nat) (most : Int) (K : Value → Heap → Prop) (ra : Option Addr) (rn : Nat) (segment : Int) (H_1 : Heap) : Prop :=
  (((decide (2147483647 < segment))) = true →
  K (.tuple #[(.pointer none), (.slice none 0 0), (.int .i64 20)]) H_1) ∧
  (((decide (2147483647 < segment))) = false →
  ∃ (Inv : (Option Addr) → Nat → Nat → Int → Heap → Prop) (mu : (Option Addr) → Nat → Nat → Int → Heap → Nat), Inv none 0 0 0 H_1 ∧
  ∀ (lista : Option Addr) (listn : Nat) (listc : Nat) (t38 : Int), ∀ H_2 : Heap, Inv lista listn listc t38 H_2 → reel_Open.l1 db do_ most K ra rn segment Inv mu lista listn listc t38 H_2)

def reel_Open.code (db : Nat) (do_ : Nat) (most : Int) (H : Heap) (K : Value → Heap → Prop) : Prop :=
  ((((decide (most < 64)) || (decide (1048576 < most)))) = true →
  K (.tuple #[(.pointer none), (.slice none 0 0), (.int .i64 11)]) H) ∧
  ((((decide (most < 64)) || (decide (1048576 < most)))) = false →
  CallF Tryz.prog 33 #[(.pointer (some ⟨db, do_, none⟩))] H fun u H_ => ∃ ra : Option Addr, ∃ rn : Nat, ∃ rc : Nat, u = (.slice ra rn rc) ∧
  ∀ Jn : Int → Heap → Prop, (∀ (segment : Int), ∀ H_1 : Heap, reel_Open.r2 db do_ most K ra rn segment H_1 → Jn segment H_1) →
  (((decide (0 < (rn : Int)))) = true →
  ((0 : Int) ≤ (IntKind.i64.wrap ((rn : Int) - 1)) ∧ (IntKind.i64.wrap ((rn : Int) - 1)) < (rn : Int)) ∧ ∃ b2 o1 : Nat, (ra = some ⟨b2, o1, none⟩) ∧
  ∃ v1 : Int, cellAt H_ b2 (o1 + (IntKind.i64.wrap ((rn : Int) - 1)).toNat) = some (.int .i64 v1) ∧
  Jn (IntKind.i64.wrap (v1 + 1)) H_) ∧
  (((decide (0 < (rn : Int)))) = false →
  Jn 0 H_))

def reel_Open.ann : Ann := (.seq .reg (.seq (.seq .reg (.cond (.seq .reg .no) .no)) (.seq .reg (.seq .reg (.seq (.seq .reg (.condJ [(8, .one (.int .i64))] .reg .no)) (.seq (.seq .reg (.cond (.seq .reg .no) .no)) (.seq .reg (.seq (.seq .reg (.blk (.loop [(9, .one (.slice)), (38, .one (.int .i64))] (.seq .reg (.seq (.cond .no .no) (.seq (.blk (.seq .reg (.seq .reg (.seq .reg .reg)))) .reg)))))) (.seq .reg .no)))))))))

theorem reel_Open.eq (db : Nat) (do_ : Nat) (most : Int) (H : Heap) (K : Value → Heap → Prop) : vcFun X Tryz.f19 reel_Open.ann [(.pointer (some ⟨db, do_, none⟩)), (.int .i64 most)] H K = reel_Open.code db do_ most H K := by kernel_rfl

theorem reel_Open.call {db : Nat} {do_ : Nat} {most : Int} {H : Heap} {K : Value → Heap → Prop} (h : reel_Open.code db do_ most H K) : CallF Tryz.prog 19 #[(.pointer (some ⟨db, do_, none⟩)), (.int .i64 most)] H K :=
  callF_of_eq (X := X) X_P X_wide X_bodied Tryz.func19 (reel_Open.eq db do_ most H K) h

def R11_Same.l1 (aa : Option Addr) (an : Nat) (ba : Option Addr) (bn : Nat) (K : Value → Heap → Prop) (Inv : Int → Heap → Prop) (mu : Int → Heap → Nat) (i : Int) (H_ : Heap) : Prop :=
  (((decide (i < (an : Int)))) = true →
  ((0 : Int) ≤ i ∧ i < (an : Int)) ∧ ∃ b o : Nat, (aa = some ⟨b, o, none⟩) ∧
  ∃ v : Int, cellAt H_ b (o + i.toNat * 2) = some (.int .i64 v) ∧
  ((0 : Int) ≤ i ∧ i < (bn : Int)) ∧ ∃ b1 o1 : Nat, (ba = some ⟨b1, o1, none⟩) ∧
  ∃ v1 : Int, cellAt H_ b1 (o1 + i.toNat * 2) = some (.int .i64 v1) ∧
  (((!decide (v = v1)) = false) → ((0 : Int) ≤ i ∧ i < (an : Int))) ∧ ∃ b2 o2 : Nat, (((!decide (v = v1)) = false) → (aa = some ⟨b2, o2, none⟩)) ∧
  ∃ va : Option Addr, ∃ vn : Nat, ∃ vc : Nat, (((!decide (v = v1)) = false) → cellAt H_ b2 (o2 + i.toNat * 2 + 1) = some (.slice va vn vc)) ∧
  (((!decide (v = v1)) = false) → ((0 : Int) ≤ i ∧ i < (bn : Int))) ∧ ∃ b3 o3 : Nat, (((!decide (v = v1)) = false) → (ba = some ⟨b3, o3, none⟩)) ∧
  ∃ va1 : Option Addr, ∃ vn1 : Nat, ∃ vc1 : Nat, (((!decide (v = v1)) = false) → cellAt H_ b3 (o3 + i.toNat * 2 + 1) = some (.slice va1 vn1 vc1)) ∧
  ∃ r : Bool, (((!decide (v = v1)) = false) → CallQ Tryz.prog 18 #[(.slice va vn vc), (.slice va1 vn1 vc1)] H_ (.bool r)) ∧
  ((((!decide (v = v1)) || (!r))) = true →
  K (.bool false) H_) ∧
  ((((!decide (v = v1)) || (!r))) = false →
  Inv (IntKind.i64.wrap (i + 1)) H_ ∧ mu (IntKind.i64.wrap (i + 1)) H_ < mu i H_)) ∧
  (((decide (i < (an : Int)))) = false →
  K (.bool true) H_)

def R11_Same.code (aa : Option Addr) (an : Nat) (ac : Nat) (ba : Option Addr) (bn : Nat) (bc : Nat) (H : Heap) (K : Value → Heap → Prop) : Prop :=
  (((!decide ((an : Int) = (bn : Int)))) = true →
  K (.bool false) H) ∧
  (((!decide ((an : Int) = (bn : Int)))) = false →
  ∃ (Inv : Int → Heap → Prop) (mu : Int → Heap → Nat), Inv 0 H ∧
  ∀ (i : Int), ∀ H_ : Heap, Inv i H_ → R11_Same.l1 aa an ba bn K Inv mu i H_)

def R11_Same.ann : Ann := (.seq .reg (.seq (.seq .reg (.cond (.seq .reg .no) .no)) (.seq (.seq .reg (.blk (.loop [(5, .one (.int .i64))] (.seq (.seq .reg (.cond .no .no)) (.seq (.blk (.seq .reg (.cond (.seq .reg .no) .no))) .reg))))) (.seq .reg .no))))

theorem R11_Same.eq (aa : Option Addr) (an : Nat) (ac : Nat) (ba : Option Addr) (bn : Nat) (bc : Nat) (H : Heap) (K : Value → Heap → Prop) : vcFun X Tryz.f50 R11_Same.ann [(.slice aa an ac), (.slice ba bn bc)] H K = R11_Same.code aa an ac ba bn bc H K := by kernel_rfl

theorem R11_Same.call {aa : Option Addr} {an : Nat} {ac : Nat} {ba : Option Addr} {bn : Nat} {bc : Nat} {H : Heap} {K : Value → Heap → Prop} (h : R11_Same.code aa an ac ba bn bc H K) : CallF Tryz.prog 50 #[(.slice aa an ac), (.slice ba bn bc)] H K :=
  callF_of_eq (X := X) X_P X_wide X_bodied Tryz.func50 (R11_Same.eq aa an ac ba bn bc H K) h

def R11_Scan.l1 (ba : Option Addr) (bn : Nat) (bc : Nat) (K : Value → Heap → Prop) (Inv : (Option Addr) → Nat → Nat → Int → Heap → Prop) (mu : (Option Addr) → Nat → Nat → Int → Heap → Nat) (outa : Option Addr) (outn : Nat) (outc : Nat) (at_ : Int) (H_1 : Heap) : Prop :=
  (((decide (at_ < (bn : Int)))) = true →
  ((0 : Int) ≤ at_ ∧ at_ ≤ (bn : Int) ∧ (bn : Int) ≤ (bc : Int)) ∧
  CallF Tryz.prog 78 #[(.slice (slB ba at_.toNat bc 1) (bn - at_.toNat) (bc - at_.toNat))] H_1 fun u H_2 => ∃ r0 : Int, ∃ r1a : Option Addr, ∃ r1n : Nat, ∃ r1c : Nat, ∃ r : Int, u = (.tuple #[(.agg #[(.int .i64 r0), (.slice r1a r1n r1c)]), (.int .i64 r)]) ∧
  ∀ (b1 : Nat) (H_3 : Heap), b1 = H_2.size → H_3 = H_2.push (.cells #[(.int .i64 0), (.slice none 0 0)] 124) →
  canSet H_3 b1 0 [(.int .i64 r0), (.slice r1a r1n r1c)] ∧
  ∀ H_4 : Heap, H_4 = setAll H_3 b1 0 [(.int .i64 r0), (.slice r1a r1n r1c)] →
  (((decide (r = 0))) = true →
  K (.tuple #[(.slice outa outn outc), (.int .i64 at_)]) H_4) ∧
  (((decide (r = 0))) = false →
  ∃ c0 : Int, ∃ c1a : Option Addr, ∃ c1n : Nat, ∃ c1c : Nat, cellsAre H_4 b1 0 [(.int .i64 c0), (.slice c1a c1n c1c)] ∧
  ∀ (b2 : Nat) (H_5 : Heap), b2 = H_4.size → H_5 = H_4.push (.cells #[(.int .i64 c0), (.slice c1a c1n c1c)] 124) →
  RunW Tryz.prog (Builtin.append_ #[40, 40] 40 #[(.slice outa outn outc), (.slice (some ⟨b2, 0, none⟩) 1 1)]) H_5 fun u1 H_6 =>
  ∃ sa : Option Addr, ∃ sn : Nat, ∃ sc : Nat, u1 = (.slice sa sn sc) ∧
  Inv sa sn sc (IntKind.i64.wrap (at_ + r)) H_6 ∧ mu sa sn sc (IntKind.i64.wrap (at_ + r)) H_6 < mu outa outn outc at_ H_1)) ∧
  (((decide (at_ < (bn : Int)))) = false →
  K (.tuple #[(.slice outa outn outc), (.int .i64 at_)]) H_1)

def R11_Scan.code (ba : Option Addr) (bn : Nat) (bc : Nat) (H : Heap) (K : Value → Heap → Prop) : Prop :=
  ∀ (b : Nat) (H_ : Heap), b = H.size → H_ = H.push (.cells #[] 124) →
  ∃ (Inv : (Option Addr) → Nat → Nat → Int → Heap → Prop) (mu : (Option Addr) → Nat → Nat → Int → Heap → Nat), Inv (some ⟨b, 0, none⟩) 0 0 0 H_ ∧
  ∀ (outa : Option Addr) (outn : Nat) (outc : Nat) (at_ : Int), ∀ H_1 : Heap, Inv outa outn outc at_ H_1 → R11_Scan.l1 ba bn bc K Inv mu outa outn outc at_ H_1

def R11_Scan.ann : Ann := (.seq .reg (.seq .reg (.seq .reg (.seq (.blk (.loop [(4, .one (.slice)), (5, .one (.int .i64))] (.seq (.seq .reg (.cond .no .no)) (.blk (.seq .reg (.seq (.seq .reg (.cond (.seq .reg .no) .no)) (.seq .reg .reg))))))) (.seq .reg .no)))))

theorem R11_Scan.eq (ba : Option Addr) (bn : Nat) (bc : Nat) (H : Heap) (K : Value → Heap → Prop) : vcFun X Tryz.f63 R11_Scan.ann [(.slice ba bn bc)] H K = R11_Scan.code ba bn bc H K := by kernel_rfl

theorem R11_Scan.call {ba : Option Addr} {bn : Nat} {bc : Nat} {H : Heap} {K : Value → Heap → Prop} (h : R11_Scan.code ba bn bc H K) : CallF Tryz.prog 63 #[(.slice ba bn bc)] H K :=
  callF_of_eq (X := X) X_P X_wide X_bodied Tryz.func63 (R11_Scan.eq ba bn bc H K) h

def reel_Scan.r1 (K : Value → Heap → Prop) (lista : Option Addr) (listn : Nat) (listc : Nat) (used : Int) (H_1 : Heap) : Prop :=
  K (.tuple #[(.slice lista listn listc), (.int .i64 used)]) H_1

def reel_Scan.l2 (bn : Nat) (r : Option Addr) (Jn : (Option Addr) → Nat → Nat → Int → Heap → Prop) (Inv : (Option Addr) → Nat → Nat → Int → Heap → Prop) (mu : (Option Addr) → Nat → Nat → Int → Heap → Nat) (lista1 : Option Addr) (listn1 : Nat) (listc1 : Nat) (used1 : Int) (H_2 : Heap) : Prop :=
  ∃ r1 : Int, CallQ Tryz.prog 59 #[(.pointer r)] H_2 (.int .i64 r1) ∧
  (((decide (0 < r1))) = true →
  CallF Tryz.prog 60 #[(.pointer r), (.int .i64 262150)] H_2 fun u1 H_3 => ∃ r2 : ByteArray, u1 = (.string r2) ∧
  ∃ r3 : Int, CallQ Tryz.prog 61 #[(.pointer r)] H_3 (.int .i64 r3) ∧
  (((!decide (r3 = 0))) = true →
  Jn lista1 listn1 listc1 used1 H_3) ∧
  (((!decide (r3 = 0))) = false →
  RunW Tryz.prog (convert 9 32 (.string r2)) H_3 fun u2 H_4 =>
  ∃ sa : Option Addr, ∃ sn : Nat, ∃ sc : Nat, u2 = (.slice sa sn sc) ∧
  CallF Tryz.prog 62 #[(.slice sa sn sc)] H_4 fun u3 H_5 => ∃ r0 : Int, ∃ r1a : Option Addr, ∃ r1n : Nat, ∃ r1c : Nat, ∃ r4 : Bool, u3 = (.tuple #[(.agg #[(.int .i64 r0), (.slice r1a r1n r1c)]), (.bool r4)]) ∧
  ∀ (b : Nat) (H_6 : Heap), b = H_5.size → H_6 = H_5.push (.cells #[(.int .i64 0), (.slice none 0 0)] 64) →
  canSet H_6 b 0 [(.int .i64 r0), (.slice r1a r1n r1c)] ∧
  ∀ H_7 : Heap, H_7 = setAll H_6 b 0 [(.int .i64 r0), (.slice r1a r1n r1c)] →
  (((!r4)) = true →
  Jn lista1 listn1 listc1 used1 H_7) ∧
  (((!r4)) = false →
  ∃ c0 : Int, ∃ c1a : Option Addr, ∃ c1n : Nat, ∃ c1c : Nat, cellsAre H_7 b 0 [(.int .i64 c0), (.slice c1a c1n c1c)] ∧
  ∀ (b1 : Nat) (H_8 : Heap), b1 = H_7.size → H_8 = H_7.push (.cells #[(.int .i64 c0), (.slice c1a c1n c1c)] 64) →
  RunW Tryz.prog (Builtin.append_ #[33, 33] 33 #[(.slice lista1 listn1 listc1), (.slice (some ⟨b1, 0, none⟩) 1 1)]) H_8 fun u4 H_9 =>
  ∃ sa1 : Option Addr, ∃ sn1 : Nat, ∃ sc1 : Nat, u4 = (.slice sa1 sn1 sc1) ∧
  ∃ r5 : Int, CallQ Tryz.prog 59 #[(.pointer r)] H_9 (.int .i64 r5) ∧
  Inv sa1 sn1 sc1 (IntKind.i64.wrap ((bn : Int) - r5)) H_9 ∧ mu sa1 sn1 sc1 (IntKind.i64.wrap ((bn : Int) - r5)) H_9 < mu lista1 listn1 listc1 used1 H_2))) ∧
  (((decide (0 < r1))) = false →
  Jn lista1 listn1 listc1 used1 H_2)

def reel_Scan.code (ba : Option Addr) (bn : Nat) (bc : Nat) (H : Heap) (K : Value → Heap → Prop) : Prop :=
  CallF Tryz.prog 58 #[(.slice ba bn bc)] H fun u H_ => ∃ r : Option Addr, u = (.pointer r) ∧
  ∀ Jn : (Option Addr) → Nat → Nat → Int → Heap → Prop, (∀ (lista : Option Addr) (listn : Nat) (listc : Nat) (used : Int), ∀ H_1 : Heap, reel_Scan.r1 K lista listn listc used H_1 → Jn lista listn listc used H_1) →
  ∃ (Inv : (Option Addr) → Nat → Nat → Int → Heap → Prop) (mu : (Option Addr) → Nat → Nat → Int → Heap → Nat), Inv none 0 0 0 H_ ∧
  ∀ (lista1 : Option Addr) (listn1 : Nat) (listc1 : Nat) (used1 : Int), ∀ H_2 : Heap, Inv lista1 listn1 listc1 used1 H_2 → reel_Scan.l2 bn r Jn Inv mu lista1 listn1 listc1 used1 H_2

def reel_Scan.ann : Ann := (.seq .reg (.seq .reg (.seq .reg (.seq .reg (.seq (.blkJ [(4, .one (.slice)), (5, .one (.int .i64))] (.loop [(4, .one (.slice)), (5, .one (.int .i64))] (.seq (.seq .reg (.cond .no .no)) (.blk (.seq .reg (.seq (.seq .reg (.cond .no .no)) (.seq .reg (.seq (.seq .reg (.cond .no .no)) (.seq .reg .reg))))))))) (.seq .reg .no))))))

theorem reel_Scan.eq (ba : Option Addr) (bn : Nat) (bc : Nat) (H : Heap) (K : Value → Heap → Prop) : vcFun X Tryz.f42 reel_Scan.ann [(.slice ba bn bc)] H K = reel_Scan.code ba bn bc H K := by kernel_rfl

theorem reel_Scan.call {ba : Option Addr} {bn : Nat} {bc : Nat} {H : Heap} {K : Value → Heap → Prop} (h : reel_Scan.code ba bn bc H K) : CallF Tryz.prog 42 #[(.slice ba bn bc)] H K :=
  callF_of_eq (X := X) X_P X_wide X_bodied Tryz.func42 (reel_Scan.eq ba bn bc H K) h

def R11_Bytes.code (kind : Int) (dataa : Option Addr) (datan : Nat) (datac : Nat) (H : Heap) (K : Value → Heap → Prop) : Prop :=
  ((((decide (kind < 0)) || (decide (255 < kind)))) = true →
  K (.tuple #[(.slice none 0 0), (.int .i64 11)]) H) ∧
  ((((decide (kind < 0)) || (decide (255 < kind)))) = false →
  (((decide (262144 < (datan : Int)))) = true →
  K (.tuple #[(.slice none 0 0), (.int .i64 17)]) H) ∧
  (((decide (262144 < (datan : Int)))) = false →
  CallF Tryz.prog 80 #[(.int .u64 (IntKind.u64.wrap kind))] H fun u H_ => ∃ ra : Option Addr, ∃ rn : Nat, ∃ rc : Nat, u = (.slice ra rn rc) ∧
  RunW Tryz.prog (Builtin.append_ #[32, 32] 32 #[(.slice ra rn rc), (.slice dataa datan datac)]) H_ fun u1 H_1 =>
  ∃ sa : Option Addr, ∃ sn : Nat, ∃ sc : Nat, u1 = (.slice sa sn sc) ∧
  CallF Tryz.prog 79 #[(.slice sa sn sc)] H_1 fun u2 H_2 => ∃ ra1 : Option Addr, ∃ rn1 : Nat, ∃ rc1 : Nat, u2 = (.slice ra1 rn1 rc1) ∧
  CallF Tryz.prog 80 #[(.int .u64 (IntKind.u64.wrap (rn1 : Int)))] H_2 fun u3 H_3 => ∃ ra2 : Option Addr, ∃ rn2 : Nat, ∃ rc2 : Nat, u3 = (.slice ra2 rn2 rc2) ∧
  RunW Tryz.prog (Builtin.append_ #[32, 32] 32 #[(.slice ra2 rn2 rc2), (.slice ra1 rn1 rc1)]) H_3 fun u4 H_4 =>
  ∃ sa1 : Option Addr, ∃ sn1 : Nat, ∃ sc1 : Nat, u4 = (.slice sa1 sn1 sc1) ∧
  K (.tuple #[(.slice sa1 sn1 sc1), (.int .i64 0)]) H_4))

def R11_Bytes.ann : Ann := (.seq .reg (.seq (.seq .reg (.cond (.seq .reg .no) .no)) (.seq (.seq .reg (.cond (.seq .reg .no) .no)) (.seq .reg (.seq .reg .no)))))

theorem R11_Bytes.eq (kind : Int) (dataa : Option Addr) (datan : Nat) (datac : Nat) (H : Heap) (K : Value → Heap → Prop) : vcFun X Tryz.f64 R11_Bytes.ann [(.int .i64 kind), (.slice dataa datan datac)] H K = R11_Bytes.code kind dataa datan datac H K := by kernel_rfl

theorem R11_Bytes.call {kind : Int} {dataa : Option Addr} {datan : Nat} {datac : Nat} {H : Heap} {K : Value → Heap → Prop} (h : R11_Bytes.code kind dataa datan datac H K) : CallF Tryz.prog 64 #[(.int .i64 kind), (.slice dataa datan datac)] H K :=
  callF_of_eq (X := X) X_P X_wide X_bodied Tryz.func64 (R11_Bytes.eq kind dataa datan datac H K) h

def reel_Bytes.code (r0 : Int) (r1a : Option Addr) (r1n : Nat) (r1c : Nat) (H : Heap) (K : Value → Heap → Prop) : Prop :=
  ∀ (b : Nat) (H_ : Heap), b = H.size → H_ = H.push (.cells #[(.int .i64 r0), (.slice r1a r1n r1c)] 64) →
  ∃ v : Int, cellAt H_ b 0 = some (.int .i64 v) ∧
  ∃ v1 : Int, (((decide (v < 0)) = false) → cellAt H_ b 0 = some (.int .i64 v1)) ∧
  ((((decide (v < 0)) || (decide (255 < v1)))) = true →
  K (.tuple #[(.slice none 0 0), (.int .i64 11)]) H_) ∧
  ((((decide (v < 0)) || (decide (255 < v1)))) = false →
  ∃ va : Option Addr, ∃ vn : Nat, ∃ vc : Nat, cellAt H_ b 1 = some (.slice va vn vc) ∧
  (((decide (262144 < (vn : Int)))) = true →
  K (.tuple #[(.slice none 0 0), (.int .i64 17)]) H_) ∧
  (((decide (262144 < (vn : Int)))) = false →
  ∃ v2 : Int, cellAt H_ b 0 = some (.int .i64 v2) ∧
  ∃ va1 : Option Addr, ∃ vn1 : Nat, ∃ vc1 : Nat, cellAt H_ b 1 = some (.slice va1 vn1 vc1) ∧
  ∀ (b1 : Nat) (H_1 : Heap), b1 = H_.size → H_1 = H_.push (.cells #[(.int .u64 (IntKind.u64.wrap v2))] 130) →
  cellAt H_1 b 1 = some (.slice va1 vn1 vc1) ∧
  CallF Tryz.prog 71 #[(.slice (some ⟨b1, 0, none⟩) 1 1)] H_1 fun u H_2 => ∃ ra : Option Addr, ∃ rn : Nat, ∃ rc : Nat, u = (.slice ra rn rc) ∧
  cellAt H_2 b 1 = some (.slice va1 vn1 vc1) ∧
  ∀ (b2 : Nat) (H_3 : Heap), b2 = H_2.size → H_3 = H_2.push (.cells #[(.slice ra rn rc), (.slice va1 vn1 vc1)] 32) →
  CallF Tryz.prog 70 #[(.slice (some ⟨b2, 0, none⟩) 2 2)] H_3 fun u1 H_4 => ∃ ra1 : Option Addr, ∃ rn1 : Nat, ∃ rc1 : Nat, u1 = (.slice ra1 rn1 rc1) ∧
  ∀ (b3 : Nat) (H_5 : Heap), b3 = H_4.size → H_5 = H_4.push (.cells #[(.int .u64 (IntKind.u64.wrap (rn1 : Int)))] 130) →
  CallF Tryz.prog 71 #[(.slice (some ⟨b3, 0, none⟩) 1 1)] H_5 fun u2 H_6 => ∃ ra2 : Option Addr, ∃ rn2 : Nat, ∃ rc2 : Nat, u2 = (.slice ra2 rn2 rc2) ∧
  RunW Tryz.prog (Builtin.append_ #[32, 32] 32 #[(.slice ra2 rn2 rc2), (.slice ra1 rn1 rc1)]) H_6 fun u3 H_7 =>
  ∃ sa : Option Addr, ∃ sn : Nat, ∃ sc : Nat, u3 = (.slice sa sn sc) ∧
  K (.tuple #[(.slice sa sn sc), (.int .i64 0)]) H_7))

def reel_Bytes.ann : Ann := (.seq .reg (.seq (.seq .reg (.cond (.seq .reg .no) .no)) (.seq (.seq .reg (.cond (.seq .reg .no) .no)) (.seq .reg (.seq .reg .no)))))

theorem reel_Bytes.eq (r0 : Int) (r1a : Option Addr) (r1n : Nat) (r1c : Nat) (H : Heap) (K : Value → Heap → Prop) : vcFun X Tryz.f54 reel_Bytes.ann [(.agg #[(.int .i64 r0), (.slice r1a r1n r1c)])] H K = reel_Bytes.code r0 r1a r1n r1c H K := by kernel_rfl

theorem reel_Bytes.call {r0 : Int} {r1a : Option Addr} {r1n : Nat} {r1c : Nat} {H : Heap} {K : Value → Heap → Prop} (h : reel_Bytes.code r0 r1a r1n r1c H K) : CallF Tryz.prog 54 #[(.agg #[(.int .i64 r0), (.slice r1a r1n r1c)])] H K :=
  callF_of_eq (X := X) X_P X_wide X_bodied Tryz.func54 (reel_Bytes.eq r0 r1a r1n r1c H K) h

end Go.Proofs.YtomdcdfcdeaabaaGreat
