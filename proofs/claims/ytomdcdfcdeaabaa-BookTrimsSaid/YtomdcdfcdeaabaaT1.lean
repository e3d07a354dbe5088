import Derived.Test.YtomdcdfcdeaabaaE9
import Derived.Test.YtomdcdfcdeaabaaProg
import Derived.KernelRfl
set_option maxRecDepth 100000
set_option linter.unusedVariables false
namespace Go.Proofs.Ytomdcdfcdeaabaa
open Go Go.Nm Go.Proofs
noncomputable def X : Ctx := { P := Try.prog, quiet := [14, 20, 34, 36, 40, 41, 42, 48, 55, 72, 74, 88, 91, 92, 113], calls := [2, 3, 4, 5, 6, 7, 8, 9, 10, 11, 12, 13, 14, 15, 16, 17, 18, 19, 20, 21, 22, 23, 24, 25, 26, 27, 28, 29, 30, 31, 32, 33, 34, 35, 36, 37, 38, 39, 40, 41, 42, 43, 44, 45, 46, 47, 48, 49, 50, 51, 52, 53, 54, 55, 56, 57, 58, 59, 60, 61, 62, 63, 64, 65, 66, 67, 68, 69, 70, 71, 72, 73, 74, 75, 76, 77, 78, 79, 80, 81, 82, 83, 85, 86, 87, 88, 89, 90, 91, 92, 93, 94, 95, 96, 97, 98, 99, 100, 101, 102, 103, 104, 105, 106, 107, 108, 109, 110, 111, 113, 114, 115, 116, 117, 118, 119, 120] }
theorem X_P : X.P = Try.prog := rfl
theorem X_wide : X.P.follows .mixedOrders = true := by kernel_rfl
theorem X_all : X.calls.all (bodiedB X.P) = true := by kernel_rfl
theorem X_bodied : ∀ f, memN f X.calls = true → Bodied X.P f := bodied_all X_all

def slices_Backward_piece_1.l1 (yieldl : Nat) (c0b : Nat) (c0o : Nat) (K : Value → Heap → Prop) (Inv : Int → Heap → Prop) (mu : Int → Heap → Nat) (i : Int) (H_ : Heap) : Prop :=
  (((decide (0 ≤ i))) = true →
  ∃ va1 : Option Addr, ∃ vn1 : Nat, ∃ vc1 : Nat, cellAt H_ c0b c0o = some (.slice va1 vn1 vc1) ∧
  ((0 : Int) ≤ i ∧ i < (vn1 : Int)) ∧ ∃ b o : Nat, (va1 = some ⟨b, o, none⟩) ∧
  ∃ c0 : Int, ∃ c1 : Int, cellsAre H_ b (o + i.toNat * 2) [(.int .i64 c0), (.int .i64 c1)] ∧
  YieldF Try.prog yieldl [(.int .i64 i), (.agg #[(.int .i64 c0), (.int .i64 c1)])] H_ fun u H_1 => ∃ r : Bool, u = (.bool r) ∧
  (((!r)) = true →
  K (.tuple #[]) H_1) ∧
  (((!r)) = false →
  Inv (IntKind.i64.wrap (i - 1)) H_1 ∧ mu (IntKind.i64.wrap (i - 1)) H_1 < mu i H_)) ∧
  (((decide (0 ≤ i))) = false →
  K (.tuple #[]) H_)

def slices_Backward_piece_1.code (yieldl : Nat) (c0b : Nat) (c0o : Nat) (H : Heap) (K : Value → Heap → Prop) : Prop :=
  ∃ va : Option Addr, ∃ vn : Nat, ∃ vc : Nat, cellAt H c0b c0o = some (.slice va vn vc) ∧
  ∃ (Inv : Int → Heap → Prop) (mu : Int → Heap → Nat), Inv (IntKind.i64.wrap ((vn : Int) - 1)) H ∧
  ∀ (i : Int), ∀ H_ : Heap, Inv i H_ → slices_Backward_piece_1.l1 yieldl c0b c0o K Inv mu i H_

def slices_Backward_piece_1.ann : Ann := (.seq .reg (.blk (.loop [(3, .one (.int .i64))] (.seq (.seq .reg (.cond .no .no)) (.seq (.blk (.seq .reg (.cond .no .no))) .reg)))))

theorem slices_Backward_piece_1.eq (yieldl : Nat) (c0b : Nat) (c0o : Nat) (H : Heap) (K : Value → Heap → Prop) : vcFun X Try.f85 slices_Backward_piece_1.ann [(.func (.yield yieldl) #[] #[]), (.pointer (some ⟨c0b, c0o, none⟩))] H K = slices_Backward_piece_1.code yieldl c0b c0o H K := by kernel_rfl

theorem slices_Backward_piece_1.call {yieldl : Nat} {c0b : Nat} {c0o : Nat} {H : Heap} {K : Value → Heap → Prop} (h : slices_Backward_piece_1.code yieldl c0b c0o H K) : CallF Try.prog 85 #[(.func (.yield yieldl) #[] #[]), (.pointer (some ⟨c0b, c0o, none⟩))] H K :=
  callF_of_eq (X := X) X_P X_wide X_bodied Try.func85 (slices_Backward_piece_1.eq yieldl c0b c0o H K) h

def disk_note.code (db : Nat) (do_ : Nat) (file : Int) (size : Int) (H : Heap) (K : Value → Heap → Prop) : Prop :=
  ∃ va : Option Addr, ∃ vn : Nat, ∃ vc : Nat, cellAt H db (do_ + 1) = some (.slice va vn vc) ∧
  (((decide (0 < (vn : Int))) = true) → True) ∧
  ∃ va1 : Option Addr, ∃ vn1 : Nat, ∃ vc1 : Nat, (((decide (0 < (vn : Int))) = true) → cellAt H db (do_ + 1) = some (.slice va1 vn1 vc1)) ∧
  (((decide (0 < (vn : Int))) = true) → ((0 : Int) ≤ (IntKind.i64.wrap ((vn : Int) - 1)) ∧ (IntKind.i64.wrap ((vn : Int) - 1)) < (vn1 : Int))) ∧ ∃ b o : Nat, (((decide (0 < (vn : Int))) = true) → (va1 = some ⟨b, o, none⟩)) ∧
  ∃ v : Int, (((decide (0 < (vn : Int))) = true) → cellAt H b (o + (IntKind.i64.wrap ((vn : Int) - 1)).toNat * 2) = some (.int .i64 v)) ∧
  ((((decide (0 < (vn : Int))) && (decide (v = file)))) = true →
  ∃ va2 : Option Addr, ∃ vn2 : Nat, ∃ vc2 : Nat, cellAt H db (do_ + 1) = some (.slice va2 vn2 vc2) ∧
  ((0 : Int) ≤ (IntKind.i64.wrap ((vn : Int) - 1)) ∧ (IntKind.i64.wrap ((vn : Int) - 1)) < (vn2 : Int)) ∧ ∃ b1 o1 : Nat, (va2 = some ⟨b1, o1, none⟩) ∧
  ∃ v1 : Int, cellAt H b1 (o1 + (IntKind.i64.wrap ((vn : Int) - 1)).toNat * 2 + 1) = some (.int .i64 v1) ∧
  ((0 : Int) ≤ (IntKind.i64.wrap ((vn : Int) - 1)) ∧ (IntKind.i64.wrap ((vn : Int) - 1)) < (vn2 : Int)) ∧ ∃ b2 o2 : Nat, (va2 = some ⟨b2, o2, none⟩) ∧
  canSet H b2 (o2 + (IntKind.i64.wrap ((vn : Int) - 1)).toNat * 2 + 1) [(.int .i64 (IntKind.i64.wrap (v1 + size)))] ∧
  ∀ H_ : Heap, H_ = setAll H b2 (o2 + (IntKind.i64.wrap ((vn : Int) - 1)).toNat * 2 + 1) [(.int .i64 (IntKind.i64.wrap (v1 + size)))] →
  K (.tuple #[]) H_) ∧
  ((((decide (0 < (vn : Int))) && (decide (v = file)))) = false →
  ∃ va3 : Option Addr, ∃ vn3 : Nat, ∃ vc3 : Nat, cellAt H db (do_ + 1) = some (.slice va3 vn3 vc3) ∧
  ∀ (b3 : Nat) (H_1 : Heap), b3 = H.size → H_1 = H.push (.cells #[(.int .i64 file), (.int .i64 size)] 109) →
  RunW Try.prog (Builtin.append_ #[99, 99] 99 #[(.slice va3 vn3 vc3), (.slice (some ⟨b3, 0, none⟩) 1 1)]) H_1 fun u H_2 =>
  ∃ sa : Option Addr, ∃ sn : Nat, ∃ sc : Nat, u = (.slice sa sn sc) ∧
  canSet H_2 db (do_ + 1) [(.slice sa sn sc)] ∧
  ∀ H_3 : Heap, H_3 = setAll H_2 db (do_ + 1) [(.slice sa sn sc)] →
  K (.tuple #[]) H_3)

def disk_note.ann : Ann := (.seq (.seq .reg (.seq .reg (.cond (.seq .reg .no) .no))) .reg)

theorem disk_note.eq (db : Nat) (do_ : Nat) (file : Int) (size : Int) (H : Heap) (K : Value → Heap → Prop) : vcFun X Try.f83 disk_note.ann [(.pointer (some ⟨db, do_, none⟩)), (.int .i64 file), (.int .i64 size)] H K = disk_note.code db do_ file size H K := by kernel_rfl

theorem disk_note.call {db : Nat} {do_ : Nat} {file : Int} {size : Int} {H : Heap} {K : Value → Heap → Prop} (h : disk_note.code db do_ file size H K) : CallF Try.prog 83 #[(.pointer (some ⟨db, do_, none⟩)), (.int .i64 file), (.int .i64 size)] H K :=
  callF_of_eq (X := X) X_P X_wide X_bodied Try.func83 (disk_note.eq db do_ file size H K) h

def disk_cut.code (db : Nat) (do_ : Nat) (file : Int) (size : Int) (H : Heap) (K : Value → Heap → Prop) : Prop :=
  ∃ v : Option Nat, cellAt H db do_ = some (.map v) ∧
  ∃ ma : Option Addr, ∃ mn : Nat, ∃ mc : Nat, ReadRun Try.prog (Instr.lookup 98 (.map v) (.int .i64 file) false) H (.slice ma mn mc) ∧
  (((decide (size = (mn : Int)))) = true →
  ∃ v1 : Option Nat, cellAt H db do_ = some (.map v1) ∧
  RunW Try.prog (Builtin.delete_ #[98, 3] 0 #[(.map v1), (.int .i64 file)]) H fun u H_ =>
  K (.tuple #[]) H_) ∧
  (((decide (size = (mn : Int)))) = false →
  ∃ v2 : Option Nat, cellAt H db do_ = some (.map v2) ∧
  ((0 : Int) ≤ 0 ∧ 0 ≤ (IntKind.i64.wrap ((mn : Int) - size)) ∧ (IntKind.i64.wrap ((mn : Int) - size)) ≤ (mc : Int)) ∧
  RunW Try.prog (Instr.mapUpdate 98 (.map v2) (.int .i64 file) (.slice (slB ma 0 mc 1) ((IntKind.i64.wrap ((mn : Int) - size)).toNat) mc)) H fun u1 H_1 =>
  K (.tuple #[]) H_1)

def disk_cut.ann : Ann := (.seq .reg (.seq (.seq .reg (.cond (.seq .reg .no) .no)) .reg))

theorem disk_cut.eq (db : Nat) (do_ : Nat) (file : Int) (size : Int) (H : Heap) (K : Value → Heap → Prop) : vcFun X Try.f65 disk_cut.ann [(.pointer (some ⟨db, do_, none⟩)), (.int .i64 file), (.int .i64 size)] H K = disk_cut.code db do_ file size H K := by kernel_rfl

theorem disk_cut.call {db : Nat} {do_ : Nat} {file : Int} {size : Int} {H : Heap} {K : Value → Heap → Prop} (h : disk_cut.code db do_ file size H K) : CallF Try.prog 65 #[(.pointer (some ⟨db, do_, none⟩)), (.int .i64 file), (.int .i64 size)] H K :=
  callF_of_eq (X := X) X_P X_wide X_bodied Try.func65 (disk_cut.eq db do_ file size H K) h

def slices_Backward_piece.code (sa : Option Addr) (sn : Nat) (sc : Nat) (H : Heap) (K : Value → Heap → Prop) : Prop :=
  ∀ (b : Nat) (H_ : Heap), b = H.size → H_ = H.push (.cells #[(.slice sa sn sc)] 99) →
  K (.func (.func 85) #[] #[(.pointer (some ⟨b, 0, none⟩))]) H_

def slices_Backward_piece.ann : Ann := (.seq .reg (.seq .reg .no))

theorem slices_Backward_piece.eq (sa : Option Addr) (sn : Nat) (sc : Nat) (H : Heap) (K : Value → Heap → Prop) : vcFun X Try.f64 slices_Backward_piece.ann [(.slice sa sn sc)] H K = slices_Backward_piece.code sa sn sc H K := by kernel_rfl

theorem slices_Backward_piece.call {sa : Option Addr} {sn : Nat} {sc : Nat} {H : Heap} {K : Value → Heap → Prop} (h : slices_Backward_piece.code sa sn sc H K) : CallF Try.prog 64 #[(.slice sa sn sc)] H K :=
  callF_of_eq (X := X) X_P X_wide X_bodied Try.func64 (slices_Backward_piece.eq sa sn sc H K) h

def slices_Clone_piece.code (sa : Option Addr) (sn : Nat) (sc : Nat) (H : Heap) (K : Value → Heap → Prop) : Prop :=
  ((sa.isNone) = true →
  K (.slice none 0 0) H) ∧
  ((sa.isNone) = false →
  ∀ (b : Nat) (H_ : Heap), b = H.size → H_ = H.push (.cells #[] 109) →
  RunW Try.prog (Builtin.append_ #[99, 99] 99 #[(.slice (some ⟨b, 0, none⟩) 0 0), (.slice sa sn sc)]) H_ fun u H_1 =>
  ∃ sa1 : Option Addr, ∃ sn1 : Nat, ∃ sc1 : Nat, u = (.slice sa1 sn1 sc1) ∧
  K (.slice sa1 sn1 sc1) H_1)

def slices_Clone_piece.ann : Ann := (.seq .reg (.seq (.seq .reg (.cond (.seq .reg .no) .no)) (.seq .reg .no)))

theorem slices_Clone_piece.eq (sa : Option Addr) (sn : Nat) (sc : Nat) (H : Heap) (K : Value → Heap → Prop) : vcFun X Try.f63 slices_Clone_piece.ann [(.slice sa sn sc)] H K = slices_Clone_piece.code sa sn sc H K := by kernel_rfl

theorem slices_Clone_piece.call {sa : Option Addr} {sn : Nat} {sc : Nat} {H : Heap} {K : Value → Heap → Prop} (h : slices_Clone_piece.code sa sn sc H K) : CallF Try.prog 63 #[(.slice sa sn sc)] H K :=
  callF_of_eq (X := X) X_P X_wide X_bodied Try.func63 (slices_Clone_piece.eq sa sn sc H K) h

def bytes_Clone.code (ba : Option Addr) (bn : Nat) (bc : Nat) (H : Heap) (K : Value → Heap → Prop) : Prop :=
  ((ba.isNone) = true →
  K (.slice none 0 0) H) ∧
  ((ba.isNone) = false →
  ∀ (b : Nat) (H_ : Heap), b = H.size → H_ = H.push (.cells #[] 5) →
  RunW Try.prog (Builtin.append_ #[32, 32] 32 #[(.slice (some ⟨b, 0, none⟩) 0 0), (.slice ba bn bc)]) H_ fun u H_1 =>
  ∃ sa : Option Addr, ∃ sn : Nat, ∃ sc : Nat, u = (.slice sa sn sc) ∧
  K (.slice sa sn sc) H_1)

def bytes_Clone.ann : Ann := (.seq .reg (.seq (.seq .reg (.cond (.seq .reg .no) .no)) (.seq .reg .no)))

theorem bytes_Clone.eq (ba : Option Addr) (bn : Nat) (bc : Nat) (H : Heap) (K : Value → Heap → Prop) : vcFun X Try.f61 bytes_Clone.ann [(.slice ba bn bc)] H K = bytes_Clone.code ba bn bc H K := by kernel_rfl

theorem bytes_Clone.call {ba : Option Addr} {bn : Nat} {bc : Nat} {H : Heap} {K : Value → Heap → Prop} (h : bytes_Clone.code ba bn bc H K) : CallF Try.prog 61 #[(.slice ba bn bc)] H K :=
  callF_of_eq (X := X) X_P X_wide X_bodied Try.func61 (bytes_Clone.eq ba bn bc H K) h

def R10_Disk_Files.r1 (Inv : (Option Addr) → Nat → Nat → Int → Heap → Prop) (mu : (Option Addr) → Nat → Nat → Int → Heap → Nat) (outa : Option Addr) (outn : Nat) (outc : Nat) (i : Int) (H_1 : Heap) (outa1 : Option Addr) (outn1 : Nat) (outc1 : Nat) (H_2 : Heap) : Prop :=
  Inv outa1 outn1 outc1 (IntKind.i64.wrap (i + 1)) H_2 ∧ mu outa1 outn1 outc1 (IntKind.i64.wrap (i + 1)) H_2 < mu outa outn outc i H_1

def R10_Disk_Files.l2 (Jn : (Option Addr) → Nat → Nat → Heap → Prop) (sa : Option Addr) (sn : Nat) (sc : Nat) (Inv2 : Int → Heap → Prop) (mu2 : Int → Heap → Nat) (k1 : Int) (H_6 : Heap) : Prop :=
  (((decide (0 < k1)) = true) → ((0 : Int) ≤ (IntKind.i64.wrap (k1 - 1)) ∧ (IntKind.i64.wrap (k1 - 1)) < (sn : Int))) ∧ ∃ b4 o2 : Nat, (((decide (0 < k1)) = true) → (sa = some ⟨b4, o2, none⟩)) ∧
  ∃ v2 : Int, (((decide (0 < k1)) = true) → cellAt H_6 b4 (o2 + (IntKind.i64.wrap (k1 - 1)).toNat) = some (.int .i64 v2)) ∧
  (((decide (0 < k1)) = true) → ((0 : Int) ≤ k1 ∧ k1 < (sn : Int))) ∧ ∃ b5 o3 : Nat, (((decide (0 < k1)) = true) → (sa = some ⟨b5, o3, none⟩)) ∧
  ∃ v3 : Int, (((decide (0 < k1)) = true) → cellAt H_6 b5 (o3 + k1.toNat) = some (.int .i64 v3)) ∧
  ((((decide (0 < k1)) && (decide (v3 < v2)))) = true →
  ((0 : Int) ≤ k1 ∧ k1 < (sn : Int)) ∧ ∃ b6 o4 : Nat, (sa = some ⟨b6, o4, none⟩) ∧
  ∃ v4 : Int, cellAt H_6 b6 (o4 + k1.toNat) = some (.int .i64 v4) ∧
  ((0 : Int) ≤ (IntKind.i64.wrap (k1 - 1)) ∧ (IntKind.i64.wrap (k1 - 1)) < (sn : Int)) ∧ ∃ b7 o5 : Nat, (sa = some ⟨b7, o5, none⟩) ∧
  ∃ v5 : Int, cellAt H_6 b7 (o5 + (IntKind.i64.wrap (k1 - 1)).toNat) = some (.int .i64 v5) ∧
  ((0 : Int) ≤ (IntKind.i64.wrap (k1 - 1)) ∧ (IntKind.i64.wrap (k1 - 1)) < (sn : Int)) ∧ ∃ b8 o6 : Nat, (sa = some ⟨b8, o6, none⟩) ∧
  canSet H_6 b8 (o6 + (IntKind.i64.wrap (k1 - 1)).toNat) [(.int .i64 v4)] ∧
  ∀ H_7 : Heap, H_7 = setAll H_6 b8 (o6 + (IntKind.i64.wrap (k1 - 1)).toNat) [(.int .i64 v4)] →
  ((0 : Int) ≤ k1 ∧ k1 < (sn : Int)) ∧ ∃ b9 o7 : Nat, (sa = some ⟨b9, o7, none⟩) ∧
  canSet H_7 b9 (o7 + k1.toNat) [(.int .i64 v5)] ∧
  ∀ H_8 : Heap, H_8 = setAll H_7 b9 (o7 + k1.toNat) [(.int .i64 v5)] →
  Inv2 (IntKind.i64.wrap (k1 - 1)) H_8 ∧ mu2 (IntKind.i64.wrap (k1 - 1)) H_8 < mu2 k1 H_6) ∧
  ((((decide (0 < k1)) && (decide (v3 < v2)))) = false →
  Jn sa sn sc H_6)

def R10_Disk_Files.l3 (outa : Option Addr) (outn : Nat) (outc : Nat) (Jn : (Option Addr) → Nat → Nat → Heap → Prop) (v : Int) (Inv1 : Bool → Int → Heap → Prop) (mu1 : Bool → Int → Heap → Nat) (there : Bool) (k : Int) (H_3 : Heap) : Prop :=
  (((decide (k < (outn : Int)))) = true →
  ((there = false) → ((0 : Int) ≤ k ∧ k < (outn : Int))) ∧ ∃ b2 o1 : Nat, ((there = false) → (outa = some ⟨b2, o1, none⟩)) ∧
  ∃ v1 : Int, ((there = false) → cellAt H_3 b2 (o1 + k.toNat) = some (.int .i64 v1)) ∧
  Inv1 (there || (decide (v1 = v))) (IntKind.i64.wrap (k + 1)) H_3 ∧ mu1 (there || (decide (v1 = v))) (IntKind.i64.wrap (k + 1)) H_3 < mu1 there k H_3) ∧
  (((decide (k < (outn : Int)))) = false →
  ((there) = true →
  Jn outa outn outc H_3) ∧
  ((there) = false →
  ∀ (b3 : Nat) (H_4 : Heap), b3 = H_3.size → H_4 = H_3.push (.cells #[(.int .i64 v)] 3) →
  RunW Try.prog (Builtin.append_ #[44, 44] 44 #[(.slice outa outn outc), (.slice (some ⟨b3, 0, none⟩) 1 1)]) H_4 fun u H_5 =>
  ∃ sa : Option Addr, ∃ sn : Nat, ∃ sc : Nat, u = (.slice sa sn sc) ∧
  ∃ (Inv2 : Int → Heap → Prop) (mu2 : Int → Heap → Nat), Inv2 (outn : Int) H_5 ∧
  ∀ (k1 : Int), ∀ H_6 : Heap, Inv2 k1 H_6 → R10_Disk_Files.l2 Jn sa sn sc Inv2 mu2 k1 H_6))

def R10_Disk_Files.l4 (db : Nat) (do_ : Nat) (K : Value → Heap → Prop) (Inv : (Option Addr) → Nat → Nat → Int → Heap → Prop) (mu : (Option Addr) → Nat → Nat → Int → Heap → Nat) (outa : Option Addr) (outn : Nat) (outc : Nat) (i : Int) (H_1 : Heap) : Prop :=
  ∃ va : Option Addr, ∃ vn : Nat, ∃ vc : Nat, cellAt H_1 db do_ = some (.slice va vn vc) ∧
  (((decide (i < (vn : Int)))) = true →
  ∀ Jn : (Option Addr) → Nat → Nat → Heap → Prop, (∀ (outa1 : Option Addr) (outn1 : Nat) (outc1 : Nat), ∀ H_2 : Heap, R10_Disk_Files.r1 Inv mu outa outn outc i H_1 outa1 outn1 outc1 H_2 → Jn outa1 outn1 outc1 H_2) →
  ∃ va1 : Option Addr, ∃ vn1 : Nat, ∃ vc1 : Nat, cellAt H_1 db do_ = some (.slice va1 vn1 vc1) ∧
  ((0 : Int) ≤ i ∧ i < (vn1 : Int)) ∧ ∃ b1 o : Nat, (va1 = some ⟨b1, o, none⟩) ∧
  ∃ v : Int, cellAt H_1 b1 (o + i.toNat * 2) = some (.int .i64 v) ∧
  ∃ (Inv1 : Bool → Int → Heap → Prop) (mu1 : Bool → Int → Heap → Nat), Inv1 false 0 H_1 ∧
  ∀ (there : Bool) (k : Int), ∀ H_3 : Heap, Inv1 there k H_3 → R10_Disk_Files.l3 outa outn outc Jn v Inv1 mu1 there k H_3) ∧
  (((decide (i < (vn : Int)))) = false →
  K (.slice outa outn outc) H_1)

def R10_Disk_Files.code (db : Nat) (do_ : Nat) (H : Heap) (K : Value → Heap → Prop) : Prop :=
  ∀ (b : Nat) (H_ : Heap), b = H.size → H_ = H.push (.cells #[] 3) →
  ∃ (Inv : (Option Addr) → Nat → Nat → Int → Heap → Prop) (mu : (Option Addr) → Nat → Nat → Int → Heap → Nat), Inv (some ⟨b, 0, none⟩) 0 0 0 H_ ∧
  ∀ (outa : Option Addr) (outn : Nat) (outc : Nat) (i : Int), ∀ H_1 : Heap, Inv outa outn outc i H_1 → R10_Disk_Files.l4 db do_ K Inv mu outa outn outc i H_1

def R10_Disk_Files.ann : Ann := (.seq .reg (.seq .reg (.seq (.seq .reg (.blk (.loop [(3, .one (.slice)), (4, .one (.int .i64))] (.seq (.seq .reg (.cond .no .no)) (.seq (.blkJ [(3, .one (.slice))] (.seq .reg (.seq .reg (.seq (.seq .reg (.blk (.loop [(6, .one (.bool)), (7, .one (.int .i64))] (.seq (.seq .reg (.cond .no .no)) (.seq (.blk .reg) .reg))))) (.seq (.seq .reg (.cond .no .no)) (.seq .reg (.seq .reg (.blk (.loop [(8, .one (.int .i64))] (.seq (.seq .reg (.cond .no .no)) (.blk (.seq .reg .reg)))))))))))) .reg))))) (.seq .reg .no))))

theorem R10_Disk_Files.eq (db : Nat) (do_ : Nat) (H : Heap) (K : Value → Heap → Prop) : vcFun X Try.f60 R10_Disk_Files.ann [(.pointer (some ⟨db, do_, none⟩))] H K = R10_Disk_Files.code db do_ H K := by kernel_rfl

theorem R10_Disk_Files.call {db : Nat} {do_ : Nat} {H : Heap} {K : Value → Heap → Prop} (h : R10_Disk_Files.code db do_ H K) : CallF Try.prog 60 #[(.pointer (some ⟨db, do_, none⟩))] H K :=
  callF_of_eq (X := X) X_P X_wide X_bodied Try.func60 (R10_Disk_Files.eq db do_ H K) h

def R10_Disk_Crash.code (db : Nat) (do_ : Nat) (keep : Int) (H : Heap) (K : Value → Heap → Prop) : Prop :=
  ∃ va : Option Addr, ∃ vn : Nat, ∃ vc : Nat, cellAt H db do_ = some (.slice va vn vc) ∧
  ∃ v : Int, cellAt H db (do_ + 1) = some (.int .i64 v) ∧
  ∃ va1 : Option Addr, ∃ vn1 : Nat, ∃ vc1 : Nat, cellAt H db do_ = some (.slice va1 vn1 vc1) ∧
  ∃ v1 : Int, cellAt H db (do_ + 1) = some (.int .i64 v1) ∧
  ((0 : Int) ≤ 0 ∧ 0 ≤ (IntKind.i64.wrap (v1 + (if (IntKind.i64.wrap ((vn : Int) - v)) < (if 0 > keep then 0 else keep) then (IntKind.i64.wrap ((vn : Int) - v)) else (if 0 > keep then 0 else keep)))) ∧ (IntKind.i64.wrap (v1 + (if (IntKind.i64.wrap ((vn : Int) - v)) < (if 0 > keep then 0 else keep) then (IntKind.i64.wrap ((vn : Int) - v)) else (if 0 > keep then 0 else keep)))) ≤ (vc1 : Int)) ∧
  ∀ (b : Nat) (H_ : Heap), b = H.size → H_ = H.push (.cells #[] 105) →
  cellAt H_ db (do_ + 1) = some (.int .i64 v1) ∧
  cellAt H_ db do_ = some (.slice va1 vn1 vc1) ∧
  RunW Try.prog (Builtin.append_ #[28, 28] 28 #[(.slice (some ⟨b, 0, none⟩) 0 0), (.slice (slB va1 0 vc1 2) ((IntKind.i64.wrap (v1 + (if (IntKind.i64.wrap ((vn : Int) - v)) < (if 0 > keep then 0 else keep) then (IntKind.i64.wrap ((vn : Int) - v)) else (if 0 > keep then 0 else keep)))).toNat) vc1)]) H_ fun u H_1 =>
  ∃ sa : Option Addr, ∃ sn : Nat, ∃ sc : Nat, u = (.slice sa sn sc) ∧
  canSet H_1 db do_ [(.slice sa sn sc)] ∧
  ∀ H_2 : Heap, H_2 = setAll H_1 db do_ [(.slice sa sn sc)] →
  ∃ va2 : Option Addr, ∃ vn2 : Nat, ∃ vc2 : Nat, cellAt H_2 db do_ = some (.slice va2 vn2 vc2) ∧
  canSet H_2 db (do_ + 1) [(.int .i64 (vn2 : Int))] ∧
  ∀ H_3 : Heap, H_3 = setAll H_2 db (do_ + 1) [(.int .i64 (vn2 : Int))] →
  K (.tuple #[]) H_3

def R10_Disk_Crash.ann : Ann := (.seq .reg (.seq .reg .reg))

theorem R10_Disk_Crash.eq (db : Nat) (do_ : Nat) (keep : Int) (H : Heap) (K : Value → Heap → Prop) : vcFun X Try.f59 R10_Disk_Crash.ann [(.pointer (some ⟨db, do_, none⟩)), (.int .i64 keep)] H K = R10_Disk_Crash.code db do_ keep H K := by kernel_rfl

theorem R10_Disk_Crash.call {db : Nat} {do_ : Nat} {keep : Int} {H : Heap} {K : Value → Heap → Prop} (h : R10_Disk_Crash.code db do_ keep H K) : CallF Try.prog 59 #[(.pointer (some ⟨db, do_, none⟩)), (.int .i64 keep)] H K :=
  callF_of_eq (X := X) X_P X_wide X_bodied Try.func59 (R10_Disk_Crash.eq db do_ keep H K) h

def R10_Disk_Delete.r1 (Inv : (Option Addr) → Nat → Nat → Int → Heap → Prop) (mu : (Option Addr) → Nat → Nat → Int → Heap → Nat) (lefta : Option Addr) (leftn : Nat) (leftc : Nat) (i : Int) (H_2 : Heap) (lefta1 : Option Addr) (leftn1 : Nat) (leftc1 : Nat) (H_3 : Heap) : Prop :=
  Inv lefta1 leftn1 leftc1 (IntKind.i64.wrap (i + 1)) H_3 ∧ mu lefta1 leftn1 leftc1 (IntKind.i64.wrap (i + 1)) H_3 < mu lefta leftn leftc i H_2

def R10_Disk_Delete.l2 (db : Nat) (do_ : Nat) (file : Int) (K : Value → Heap → Prop) (Inv : (Option Addr) → Nat → Nat → Int → Heap → Prop) (mu : (Option Addr) → Nat → Nat → Int → Heap → Nat) (lefta : Option Addr) (leftn : Nat) (leftc : Nat) (i : Int) (H_2 : Heap) : Prop :=
  ∃ va1 : Option Addr, ∃ vn1 : Nat, ∃ vc1 : Nat, cellAt H_2 db do_ = some (.slice va1 vn1 vc1) ∧
  (((decide (i < (vn1 : Int)))) = true →
  ∃ va2 : Option Addr, ∃ vn2 : Nat, ∃ vc2 : Nat, cellAt H_2 db do_ = some (.slice va2 vn2 vc2) ∧
  ((0 : Int) ≤ i ∧ i < (vn2 : Int)) ∧ ∃ b1 o : Nat, (va2 = some ⟨b1, o, none⟩) ∧
  ∃ v1 : Int, cellAt H_2 b1 (o + i.toNat * 2) = some (.int .i64 v1) ∧
  ∀ Jn : (Option Addr) → Nat → Nat → Heap → Prop, (∀ (lefta1 : Option Addr) (leftn1 : Nat) (leftc1 : Nat), ∀ H_3 : Heap, R10_Disk_Delete.r1 Inv mu lefta leftn leftc i H_2 lefta1 leftn1 leftc1 H_3 → Jn lefta1 leftn1 leftc1 H_3) →
  (((!decide (v1 = file))) = true →
  ∃ va3 : Option Addr, ∃ vn3 : Nat, ∃ vc3 : Nat, cellAt H_2 db do_ = some (.slice va3 vn3 vc3) ∧
  ((0 : Int) ≤ i ∧ i < (vn3 : Int)) ∧ ∃ b2 o1 : Nat, (va3 = some ⟨b2, o1, none⟩) ∧
  ∃ c0 : Int, ∃ c1 : Int, cellsAre H_2 b2 (o1 + i.toNat * 2) [(.int .i64 c0), (.int .u8 c1)] ∧
  ∀ (b3 : Nat) (H_4 : Heap), b3 = H_2.size → H_4 = H_2.push (.cells #[(.int .i64 c0), (.int .u8 c1)] 105) →
  RunW Try.prog (Builtin.append_ #[28, 28] 28 #[(.slice lefta leftn leftc), (.slice (some ⟨b3, 0, none⟩) 1 1)]) H_4 fun u1 H_5 =>
  ∃ sa : Option Addr, ∃ sn : Nat, ∃ sc : Nat, u1 = (.slice sa sn sc) ∧
  Jn sa sn sc H_5) ∧
  (((!decide (v1 = file))) = false →
  Jn lefta leftn leftc H_2)) ∧
  (((decide (i < (vn1 : Int)))) = false →
  canSet H_2 db do_ [(.slice lefta leftn leftc)] ∧
  ∀ H_6 : Heap, H_6 = setAll H_2 db do_ [(.slice lefta leftn leftc)] →
  canSet H_6 db (do_ + 1) [(.int .i64 (leftn : Int))] ∧
  ∀ H_7 : Heap, H_7 = setAll H_6 db (do_ + 1) [(.int .i64 (leftn : Int))] →
  K (.int .i64 0) H_7)

def R10_Disk_Delete.code (db : Nat) (do_ : Nat) (file : Int) (H : Heap) (K : Value → Heap → Prop) : Prop :=
  CallF Try.prog 19 #[(.pointer (some ⟨db, do_, none⟩)), (.int .i64 file)] H fun u H_ => ∃ ra : Option Addr, ∃ rn : Nat, ∃ rc : Nat, u = (.slice ra rn rc) ∧
  (((decide ((rn : Int) = 0))) = true →
  K (.int .i64 23) H_) ∧
  (((decide ((rn : Int) = 0))) = false →
  ∃ v : Int, cellAt H_ db (do_ + 1) = some (.int .i64 v) ∧
  ∃ va : Option Addr, ∃ vn : Nat, ∃ vc : Nat, cellAt H_ db do_ = some (.slice va vn vc) ∧
  (((decide (v < (vn : Int)))) = true →
  K (.int .i64 21) H_) ∧
  (((decide (v < (vn : Int)))) = false →
  ∀ (b : Nat) (H_1 : Heap), b = H_.size → H_1 = H_.push (.cells #[] 105) →
  ∃ (Inv : (Option Addr) → Nat → Nat → Int → Heap → Prop) (mu : (Option Addr) → Nat → Nat → Int → Heap → Nat), Inv (some ⟨b, 0, none⟩) 0 0 0 H_1 ∧
  ∀ (lefta : Option Addr) (leftn : Nat) (leftc : Nat) (i : Int), ∀ H_2 : Heap, Inv lefta leftn leftc i H_2 → R10_Disk_Delete.l2 db do_ file K Inv mu lefta leftn leftc i H_2))

def R10_Disk_Delete.ann : Ann := (.seq .reg (.seq (.seq .reg (.cond (.seq .reg .no) .no)) (.seq (.seq .reg (.cond (.seq .reg .no) .no)) (.seq .reg (.seq (.seq .reg (.blk (.loop [(5, .one (.slice)), (6, .one (.int .i64))] (.seq (.seq .reg (.cond .no .no)) (.seq (.blk (.seq .reg (.condJ [(5, .one (.slice))] .reg .no))) .reg))))) (.seq .reg (.seq .reg (.seq .reg .no))))))))

theorem R10_Disk_Delete.eq (db : Nat) (do_ : Nat) (file : Int) (H : Heap) (K : Value → Heap → Prop) : vcFun X Try.f58 R10_Disk_Delete.ann [(.pointer (some ⟨db, do_, none⟩)), (.int .i64 file)] H K = R10_Disk_Delete.code db do_ file H K := by kernel_rfl

theorem R10_Disk_Delete.call {db : Nat} {do_ : Nat} {file : Int} {H : Heap} {K : Value → Heap → Prop} (h : R10_Disk_Delete.code db do_ file H K) : CallF Try.prog 58 #[(.pointer (some ⟨db, do_, none⟩)), (.int .i64 file)] H K :=
  callF_of_eq (X := X) X_P X_wide X_bodied Try.func58 (R10_Disk_Delete.eq db do_ file H K) h

def R10_Disk_Sync.code (db : Nat) (do_ : Nat) (H : Heap) (K : Value → Heap → Prop) : Prop :=
  ∃ va : Option Addr, ∃ vn : Nat, ∃ vc : Nat, cellAt H db do_ = some (.slice va vn vc) ∧
  canSet H db (do_ + 1) [(.int .i64 (vn : Int))] ∧
  ∀ H_ : Heap, H_ = setAll H db (do_ + 1) [(.int .i64 (vn : Int))] →
  K (.tuple #[]) H_

def R10_Disk_Sync.ann : Ann := .reg

theorem R10_Disk_Sync.eq (db : Nat) (do_ : Nat) (H : Heap) (K : Value → Heap → Prop) : vcFun X Try.f57 R10_Disk_Sync.ann [(.pointer (some ⟨db, do_, none⟩))] H K = R10_Disk_Sync.code db do_ H K := by kernel_rfl

theorem R10_Disk_Sync.call {db : Nat} {do_ : Nat} {H : Heap} {K : Value → Heap → Prop} (h : R10_Disk_Sync.code db do_ H K) : CallF Try.prog 57 #[(.pointer (some ⟨db, do_, none⟩))] H K :=
  callF_of_eq (X := X) X_P X_wide X_bodied Try.func57 (R10_Disk_Sync.eq db do_ H K) h

def R10_Disk_Append.l1 (db : Nat) (do_ : Nat) (file : Int) (ba : Option Addr) (bn : Nat) (K : Value → Heap → Prop) (Inv : Int → Heap → Prop) (mu : Int → Heap → Nat) (i : Int) (H_ : Heap) : Prop :=
  (((decide (i < (bn : Int)))) = true →
  ∃ va : Option Addr, ∃ vn : Nat, ∃ vc : Nat, cellAt H_ db do_ = some (.slice va vn vc) ∧
  ((0 : Int) ≤ i ∧ i < (bn : Int)) ∧ ∃ b o : Nat, (ba = some ⟨b, o, none⟩) ∧
  ∃ v : Int, cellAt H_ b (o + i.toNat) = some (.int .u8 v) ∧
  ∀ (b1 : Nat) (H_1 : Heap), b1 = H_.size → H_1 = H_.push (.cells #[(.int .i64 file), (.int .u8 v)] 105) →
  cellAt H_1 db do_ = some (.slice va vn vc) ∧
  RunW Try.prog (Builtin.append_ #[28, 28] 28 #[(.slice va vn vc), (.slice (some ⟨b1, 0, none⟩) 1 1)]) H_1 fun u H_2 =>
  ∃ sa : Option Addr, ∃ sn : Nat, ∃ sc : Nat, u = (.slice sa sn sc) ∧
  canSet H_2 db do_ [(.slice sa sn sc)] ∧
  ∀ H_3 : Heap, H_3 = setAll H_2 db do_ [(.slice sa sn sc)] →
  Inv (IntKind.i64.wrap (i + 1)) H_3 ∧ mu (IntKind.i64.wrap (i + 1)) H_3 < mu i H_) ∧
  (((decide (i < (bn : Int)))) = false →
  K (.int .i64 0) H_)

def R10_Disk_Append.code (db : Nat) (do_ : Nat) (file : Int) (ba : Option Addr) (bn : Nat) (bc : Nat) (H : Heap) (K : Value → Heap → Prop) : Prop :=
  ((((decide (file < 0)) || (decide (2147483647 < file)))) = true →
  K (.int .i64 11) H) ∧
  ((((decide (file < 0)) || (decide (2147483647 < file)))) = false →
  ∃ (Inv : Int → Heap → Prop) (mu : Int → Heap → Nat), Inv 0 H ∧
  ∀ (i : Int), ∀ H_ : Heap, Inv i H_ → R10_Disk_Append.l1 db do_ file ba bn K Inv mu i H_)

def R10_Disk_Append.ann : Ann := (.seq .reg (.seq (.seq .reg (.cond (.seq .reg .no) .no)) (.seq (.seq .reg (.blk (.loop [(7, .one (.int .i64))] (.seq (.seq .reg (.cond .no .no)) (.seq (.blk .reg) .reg))))) (.seq .reg .no))))

theorem R10_Disk_Append.eq (db : Nat) (do_ : Nat) (file : Int) (ba : Option Addr) (bn : Nat) (bc : Nat) (H : Heap) (K : Value → Heap → Prop) : vcFun X Try.f56 R10_Disk_Append.ann [(.pointer (some ⟨db, do_, none⟩)), (.int .i64 file), (.slice ba bn bc)] H K = R10_Disk_Append.code db do_ file ba bn bc H K := by kernel_rfl

theorem R10_Disk_Append.call {db : Nat} {do_ : Nat} {file : Int} {ba : Option Addr} {bn : Nat} {bc : Nat} {H : Heap} {K : Value → Heap → Prop} (h : R10_Disk_Append.code db do_ file ba bn bc H K) : CallF Try.prog 56 #[(.pointer (some ⟨db, do_, none⟩)), (.int .i64 file), (.slice ba bn bc)] H K :=
  callF_of_eq (X := X) X_P X_wide X_bodied Try.func56 (R10_Disk_Append.eq db do_ file ba bn bc H K) h

def SameInts.l1 (aa : Option Addr) (an : Nat) (ba : Option Addr) (bn : Nat) (K : Value → Heap → Prop) (Inv : Int → Heap → Prop) (mu : Int → Heap → Nat) (i : Int) (H_ : Heap) : Prop :=
  (((decide (i < (an : Int)))) = true →
  ((0 : Int) ≤ i ∧ i < (an : Int)) ∧ ∃ b o : Nat, (aa = some ⟨b, o, none⟩) ∧
  ∃ v : Int, cellAt H_ b (o + i.toNat) = some (.int .i64 v) ∧
  ((0 : Int) ≤ i ∧ i < (bn : Int)) ∧ ∃ b1 o1 : Nat, (ba = some ⟨b1, o1, none⟩) ∧
  ∃ v1 : Int, cellAt H_ b1 (o1 + i.toNat) = some (.int .i64 v1) ∧
  (((!decide (v = v1))) = true →
  K (.bool false) H_) ∧
  (((!decide (v = v1))) = false →
  Inv (IntKind.i64.wrap (i + 1)) H_ ∧ mu (IntKind.i64.wrap (i + 1)) H_ < mu i H_)) ∧
  (((decide (i < (an : Int)))) = false →
  K (.bool true) H_)

def SameInts.code (aa : Option Addr) (an : Nat) (ac : Nat) (ba : Option Addr) (bn : Nat) (bc : Nat) (H : Heap) (K : Value → Heap → Prop) : Prop :=
  (((!decide ((an : Int) = (bn : Int)))) = true →
  K (.bool false) H) ∧
  (((!decide ((an : Int) = (bn : Int)))) = false →
  ∃ (Inv : Int → Heap → Prop) (mu : Int → Heap → Nat), Inv 0 H ∧
  ∀ (i : Int), ∀ H_ : Heap, Inv i H_ → SameInts.l1 aa an ba bn K Inv mu i H_)

def SameInts.ann : Ann := (.seq .reg (.seq (.seq .reg (.cond (.seq .reg .no) .no)) (.seq (.seq .reg (.blk (.loop [(5, .one (.int .i64))] (.seq (.seq .reg (.cond .no .no)) (.seq (.blk (.seq .reg (.cond (.seq .reg .no) .no))) .reg))))) (.seq .reg .no))))

theorem SameInts.eq (aa : Option Addr) (an : Nat) (ac : Nat) (ba : Option Addr) (bn : Nat) (bc : Nat) (H : Heap) (K : Value → Heap → Prop) : vcFun X Try.f55 SameInts.ann [(.slice aa an ac), (.slice ba bn bc)] H K = SameInts.code aa an ac ba bn bc H K := by kernel_rfl

theorem SameInts.call {aa : Option Addr} {an : Nat} {ac : Nat} {ba : Option Addr} {bn : Nat} {bc : Nat} {H : Heap} {K : Value → Heap → Prop} (h : SameInts.code aa an ac ba bn bc H K) : CallF Try.prog 55 #[(.slice aa an ac), (.slice ba bn bc)] H K :=
  callF_of_eq (X := X) X_P X_wide X_bodied Try.func55 (SameInts.eq aa an ac ba bn bc H K) h

def disk_Append.r1 (Inv : Int → Heap → Prop) (mu : Int → Heap → Nat) (t17 : Int) (H_ : Heap) (H_1 : Heap) : Prop :=
  Inv (IntKind.i64.wrap (t17 + 1)) H_1 ∧ mu (IntKind.i64.wrap (t17 + 1)) H_1 < mu t17 H_

def disk_Append.l2 (db : Nat) (do_ : Nat) (file : Int) (partsa : Option Addr) (partsn : Nat) (K : Value → Heap → Prop) (Inv : Int → Heap → Prop) (mu : Int → Heap → Nat) (t17 : Int) (H_ : Heap) : Prop :=
  (((decide (t17 < (partsn : Int)))) = true →
  ((0 : Int) ≤ t17 ∧ t17 < (partsn : Int)) ∧ ∃ b o : Nat, (partsa = some ⟨b, o, none⟩) ∧
  ∃ va : Option Addr, ∃ vn : Nat, ∃ vc : Nat, cellAt H_ b (o + t17.toNat) = some (.slice va vn vc) ∧
  ∀ Jn : Heap → Prop, (∀ H_1 : Heap, disk_Append.r1 Inv mu t17 H_ H_1 → Jn H_1) →
  (((decide (0 < (vn : Int)))) = true →
  ∃ v : Option Nat, cellAt H_ db do_ = some (.map v) ∧
  ∃ v1 : Option Nat, cellAt H_ db do_ = some (.map v1) ∧
  ∃ ma : Option Addr, ∃ mn : Nat, ∃ mc : Nat, ReadRun Try.prog (Instr.lookup 98 (.map v1) (.int .i64 file) false) H_ (.slice ma mn mc) ∧
  RunW Try.prog (Builtin.append_ #[32, 32] 32 #[(.slice ma mn mc), (.slice va vn vc)]) H_ fun u H_2 =>
  ∃ sa : Option Addr, ∃ sn : Nat, ∃ sc : Nat, u = (.slice sa sn sc) ∧
  cellAt H_2 db do_ = some (.map v) ∧
  RunW Try.prog (Instr.mapUpdate 98 (.map v) (.int .i64 file) (.slice sa sn sc)) H_2 fun u1 H_3 =>
  CallF Try.prog 83 #[(.pointer (some ⟨db, do_, none⟩)), (.int .i64 file), (.int .i64 (vn : Int))] H_3 fun u2 H_4 => u2 = (.tuple #[]) ∧
  Jn H_4) ∧
  (((decide (0 < (vn : Int)))) = false →
  Jn H_)) ∧
  (((decide (t17 < (partsn : Int)))) = false →
  K (.int .i64 0) H_)

def disk_Append.code (db : Nat) (do_ : Nat) (file : Int) (partsa : Option Addr) (partsn : Nat) (partsc : Nat) (H : Heap) (K : Value → Heap → Prop) : Prop :=
  ((((decide (file < 0)) || (decide (2147483647 < file)))) = true →
  K (.int .i64 11) H) ∧
  ((((decide (file < 0)) || (decide (2147483647 < file)))) = false →
  ∃ (Inv : Int → Heap → Prop) (mu : Int → Heap → Nat), Inv 0 H ∧
  ∀ (t17 : Int), ∀ H_ : Heap, Inv t17 H_ → disk_Append.l2 db do_ file partsa partsn K Inv mu t17 H_)

def disk_Append.ann : Ann := (.seq .reg (.seq (.seq .reg (.cond (.seq .reg .no) .no)) (.seq (.seq .reg (.blk (.loop [(17, .one (.int .i64))] (.seq .reg (.seq (.cond .no .no) (.seq (.blk (.seq .reg (.seq .reg (.condJ [] (.seq .reg .reg) .no)))) .reg)))))) (.seq .reg .no))))

theorem disk_Append.eq (db : Nat) (do_ : Nat) (file : Int) (partsa : Option Addr) (partsn : Nat) (partsc : Nat) (H : Heap) (K : Value → Heap → Prop) : vcFun X Try.f54 disk_Append.ann [(.pointer (some ⟨db, do_, none⟩)), (.int .i64 file), (.slice partsa partsn partsc)] H K = disk_Append.code db do_ file partsa partsn partsc H K := by kernel_rfl

theorem disk_Append.call {db : Nat} {do_ : Nat} {file : Int} {partsa : Option Addr} {partsn : Nat} {partsc : Nat} {H : Heap} {K : Value → Heap → Prop} (h : disk_Append.code db do_ file partsa partsn partsc H K) : CallF Try.prog 54 #[(.pointer (some ⟨db, do_, none⟩)), (.int .i64 file), (.slice partsa partsn partsc)] H K :=
  callF_of_eq (X := X) X_P X_wide X_bodied Try.func54 (disk_Append.eq db do_ file partsa partsn partsc H K) h

def CopyBytes.code (ba : Option Addr) (bn : Nat) (bc : Nat) (H : Heap) (K : Value → Heap → Prop) : Prop :=
  ∀ (b : Nat) (H_ : Heap), b = H.size → H_ = H.push (.cells #[] 5) →
  RunW Try.prog (Builtin.append_ #[32, 32] 32 #[(.slice (some ⟨b, 0, none⟩) 0 0), (.slice ba bn bc)]) H_ fun u H_1 =>
  ∃ sa : Option Addr, ∃ sn : Nat, ∃ sc : Nat, u = (.slice sa sn sc) ∧
  K (.slice sa sn sc) H_1

def CopyBytes.ann : Ann := (.seq .reg (.seq .reg .no))

theorem CopyBytes.eq (ba : Option Addr) (bn : Nat) (bc : Nat) (H : Heap) (K : Value → Heap → Prop) : vcFun X Try.f30 CopyBytes.ann [(.slice ba bn bc)] H K = CopyBytes.code ba bn bc H K := by kernel_rfl

theorem CopyBytes.call {ba : Option Addr} {bn : Nat} {bc : Nat} {H : Heap} {K : Value → Heap → Prop} (h : CopyBytes.code ba bn bc H K) : CallF Try.prog 30 #[(.slice ba bn bc)] H K :=
  callF_of_eq (X := X) X_P X_wide X_bodied Try.func30 (CopyBytes.eq ba bn bc H K) h

def disk_Delete.code (db : Nat) (do_ : Nat) (file : Int) (H : Heap) (K : Value → Heap → Prop) : Prop :=
  ∃ v : Option Nat, cellAt H db do_ = some (.map v) ∧
  ∃ ma : Option Addr, ∃ mn : Nat, ∃ mc : Nat, ∃ there : Bool, ReadRun Try.prog (Instr.lookup 98 (.map v) (.int .i64 file) true) H (.tuple #[(.slice ma mn mc), (.bool there)]) ∧
  (((!there)) = true →
  K (.int .i64 23) H) ∧
  (((!there)) = false →
  ∃ va : Option Addr, ∃ vn : Nat, ∃ vc : Nat, cellAt H db (do_ + 1) = some (.slice va vn vc) ∧
  (((decide (0 < (vn : Int)))) = true →
  K (.int .i64 21) H) ∧
  (((decide (0 < (vn : Int)))) = false →
  ∃ v1 : Option Nat, cellAt H db do_ = some (.map v1) ∧
  RunW Try.prog (Builtin.delete_ #[98, 3] 0 #[(.map v1), (.int .i64 file)]) H fun u H_ =>
  K (.int .i64 0) H_))

def disk_Delete.ann : Ann := (.seq .reg (.seq (.seq .reg (.seq .reg (.cond (.seq .reg .no) .no))) (.seq (.seq .reg (.cond (.seq .reg .no) .no)) (.seq .reg (.seq .reg .no)))))

theorem disk_Delete.eq (db : Nat) (do_ : Nat) (file : Int) (H : Heap) (K : Value → Heap → Prop) : vcFun X Try.f27 disk_Delete.ann [(.pointer (some ⟨db, do_, none⟩)), (.int .i64 file)] H K = disk_Delete.code db do_ file H K := by kernel_rfl

theorem disk_Delete.call {db : Nat} {do_ : Nat} {file : Int} {H : Heap} {K : Value → Heap → Prop} (h : disk_Delete.code db do_ file H K) : CallF Try.prog 27 #[(.pointer (some ⟨db, do_, none⟩)), (.int .i64 file)] H K :=
  callF_of_eq (X := X) X_P X_wide X_bodied Try.func27 (disk_Delete.eq db do_ file H K) h

def disk_Sync.code (db : Nat) (do_ : Nat) (H : Heap) (K : Value → Heap → Prop) : Prop :=
  canSet H db (do_ + 1) [(.slice none 0 0)] ∧
  ∀ H_ : Heap, H_ = setAll H db (do_ + 1) [(.slice none 0 0)] →
  K (.tuple #[]) H_

def disk_Sync.ann : Ann := .reg

theorem disk_Sync.eq (db : Nat) (do_ : Nat) (H : Heap) (K : Value → Heap → Prop) : vcFun X Try.f26 disk_Sync.ann [(.pointer (some ⟨db, do_, none⟩))] H K = disk_Sync.code db do_ H K := by kernel_rfl

theorem disk_Sync.call {db : Nat} {do_ : Nat} {H : Heap} {K : Value → Heap → Prop} (h : disk_Sync.code db do_ H K) : CallF Try.prog 26 #[(.pointer (some ⟨db, do_, none⟩))] H K :=
  callF_of_eq (X := X) X_P X_wide X_bodied Try.func26 (disk_Sync.eq db do_ H K) h

def disk_Size.l1 (K : Value → Heap → Prop) (it : Nat) (Inv : Int → Heap → Prop) (mu : Int → Heap → Nat) (sum : Int) (H_1 : Heap) : Prop :=
  RunW Try.prog (Instr.next (.pointer (some ⟨it, 0, none⟩)) false 0) H_1 fun u1 H_2 =>
  (u1 = (.tuple #[(.bool false)]) ∧
  ((false) = true →
  ∃ k : Value, ∃ xa : Option Addr, ∃ xn : Nat, ∃ xc : Nat, ReadRun Try.prog (Instr.entry (.pointer (some ⟨it, 0, none⟩))) H_2 (.tuple #[k, (.slice xa xn xc)]) ∧
  Inv (IntKind.i64.wrap (sum + (xn : Int))) H_2 ∧ mu (IntKind.i64.wrap (sum + (xn : Int))) H_2 < mu sum H_1) ∧
  ((false) = false →
  K (.int .i64 sum) H_2)) ∨
  (∃ k1 x : Value, u1 = (.tuple #[(.bool true), k1, x]) ∧
  ((true) = true →
  ∃ k2 : Value, ∃ xa1 : Option Addr, ∃ xn1 : Nat, ∃ xc1 : Nat, ReadRun Try.prog (Instr.entry (.pointer (some ⟨it, 0, none⟩))) H_2 (.tuple #[k2, (.slice xa1 xn1 xc1)]) ∧
  Inv (IntKind.i64.wrap (sum + (xn1 : Int))) H_2 ∧ mu (IntKind.i64.wrap (sum + (xn1 : Int))) H_2 < mu sum H_1) ∧
  ((true) = false →
  K (.int .i64 sum) H_2))

def disk_Size.code (db : Nat) (do_ : Nat) (H : Heap) (K : Value → Heap → Prop) : Prop :=
  ∃ v : Option Nat, cellAt H db do_ = some (.map v) ∧
  RunW Try.prog (Instr.range 98 (.map v)) H fun u H_ =>
  ∃ it : Nat, u = .pointer (some ⟨it, 0, none⟩) ∧
  ∃ (Inv : Int → Heap → Prop) (mu : Int → Heap → Nat), Inv 0 H_ ∧
  ∀ (sum : Int), ∀ H_1 : Heap, Inv sum H_1 → disk_Size.l1 K it Inv mu sum H_1

def disk_Size.ann : Ann := (.seq .reg (.seq .reg (.seq (.seq .reg (.blk (.loop [(3, .one (.int .i64))] (.seq .reg (.seq (.cond .no .no) (.blk (.seq .reg .reg))))))) (.seq .reg .no))))

theorem disk_Size.eq (db : Nat) (do_ : Nat) (H : Heap) (K : Value → Heap → Prop) : vcFun (X.nx [(13, .one (.raw), .one (.slice))]) Try.f25 disk_Size.ann [(.pointer (some ⟨db, do_, none⟩))] H K = disk_Size.code db do_ H K := by kernel_rfl

theorem disk_Size.call {db : Nat} {do_ : Nat} {H : Heap} {K : Value → Heap → Prop} (h : disk_Size.code db do_ H K) : CallF Try.prog 25 #[(.pointer (some ⟨db, do_, none⟩))] H K :=
  callF_of_eq (X := (X.nx [(13, .one (.raw), .one (.slice))])) X_P X_wide X_bodied Try.func25 (disk_Size.eq db do_ H K) h

def disk_Files.l1 (K : Value → Heap → Prop) (it : Nat) (Inv : (Option Addr) → Nat → Nat → Heap → Prop) (mu : (Option Addr) → Nat → Nat → Heap → Nat) (lista : Option Addr) (listn : Nat) (listc : Nat) (H_1 : Heap) : Prop :=
  RunW Try.prog (Instr.next (.pointer (some ⟨it, 0, none⟩)) false 0) H_1 fun u1 H_2 =>
  (u1 = (.tuple #[(.bool false)]) ∧
  ((false) = true →
  ∃ k : Int, ∃ x : Value, ReadRun Try.prog (Instr.entry (.pointer (some ⟨it, 0, none⟩))) H_2 (.tuple #[(.int .i64 k), x]) ∧
  ∀ (b : Nat) (H_3 : Heap), b = H_2.size → H_3 = H_2.push (.cells #[(.int .i64 k)] 3) →
  RunW Try.prog (Builtin.append_ #[44, 44] 44 #[(.slice lista listn listc), (.slice (some ⟨b, 0, none⟩) 1 1)]) H_3 fun u2 H_4 =>
  ∃ sa : Option Addr, ∃ sn : Nat, ∃ sc : Nat, u2 = (.slice sa sn sc) ∧
  Inv sa sn sc H_4 ∧ mu sa sn sc H_4 < mu lista listn listc H_1) ∧
  ((false) = false →
  CallF Try.prog 66 #[(.slice lista listn listc)] H_2 fun u3 H_5 => u3 = (.tuple #[]) ∧
  K (.slice lista listn listc) H_5)) ∨
  (∃ k1 x1 : Value, u1 = (.tuple #[(.bool true), k1, x1]) ∧
  ((true) = true →
  ∃ k2 : Int, ∃ x2 : Value, ReadRun Try.prog (Instr.entry (.pointer (some ⟨it, 0, none⟩))) H_2 (.tuple #[(.int .i64 k2), x2]) ∧
  ∀ (b1 : Nat) (H_6 : Heap), b1 = H_2.size → H_6 = H_2.push (.cells #[(.int .i64 k2)] 3) →
  RunW Try.prog (Builtin.append_ #[44, 44] 44 #[(.slice lista listn listc), (.slice (some ⟨b1, 0, none⟩) 1 1)]) H_6 fun u4 H_7 =>
  ∃ sa1 : Option Addr, ∃ sn1 : Nat, ∃ sc1 : Nat, u4 = (.slice sa1 sn1 sc1) ∧
  Inv sa1 sn1 sc1 H_7 ∧ mu sa1 sn1 sc1 H_7 < mu lista listn listc H_1) ∧
  ((true) = false →
  CallF Try.prog 66 #[(.slice lista listn listc)] H_2 fun u5 H_8 => u5 = (.tuple #[]) ∧
  K (.slice lista listn listc) H_8))

def disk_Files.code (db : Nat) (do_ : Nat) (H : Heap) (K : Value → Heap → Prop) : Prop :=
  ∃ v : Option Nat, cellAt H db do_ = some (.map v) ∧
  RunW Try.prog (Instr.range 98 (.map v)) H fun u H_ =>
  ∃ it : Nat, u = .pointer (some ⟨it, 0, none⟩) ∧
  ∃ (Inv : (Option Addr) → Nat → Nat → Heap → Prop) (mu : (Option Addr) → Nat → Nat → Heap → Nat), Inv none 0 0 H_ ∧
  ∀ (lista : Option Addr) (listn : Nat) (listc : Nat), ∀ H_1 : Heap, Inv lista listn listc H_1 → disk_Files.l1 K it Inv mu lista listn listc H_1

def disk_Files.ann : Ann := (.seq .reg (.seq .reg (.seq (.seq .reg (.blk (.loop [(3, .one (.slice))] (.seq .reg (.seq (.cond .no .no) (.blk (.seq .reg .reg))))))) (.seq .reg (.seq .reg .no)))))

theorem disk_Files.eq (db : Nat) (do_ : Nat) (H : Heap) (K : Value → Heap → Prop) : vcFun (X.nx [(12, .one (.int .i64), .one (.raw))]) Try.f24 disk_Files.ann [(.pointer (some ⟨db, do_, none⟩))] H K = disk_Files.code db do_ H K := by kernel_rfl

theorem disk_Files.call {db : Nat} {do_ : Nat} {H : Heap} {K : Value → Heap → Prop} (h : disk_Files.code db do_ H K) : CallF Try.prog 24 #[(.pointer (some ⟨db, do_, none⟩))] H K :=
  callF_of_eq (X := (X.nx [(12, .one (.int .i64), .one (.raw))])) X_P X_wide X_bodied Try.func24 (disk_Files.eq db do_ H K) h

def disk_Pending.l1 (K : Value → Heap → Prop) (va : Option Addr) (vn : Nat) (Inv : Int → Int → Heap → Prop) (mu : Int → Int → Heap → Nat) (sum : Int) (t11 : Int) (H_ : Heap) : Prop :=
  (((decide (t11 < (vn : Int)))) = true →
  ((0 : Int) ≤ t11 ∧ t11 < (vn : Int)) ∧ ∃ b o : Nat, (va = some ⟨b, o, none⟩) ∧
  ∃ c0 : Int, ∃ c1 : Int, cellsAre H_ b (o + t11.toNat * 2) [(.int .i64 c0), (.int .i64 c1)] ∧
  ∀ (b1 : Nat) (H_1 : Heap), b1 = H_.size → H_1 = H_.push (.cells #[(.int .i64 0), (.int .i64 0)] 109) →
  canSet H_1 b1 0 [(.int .i64 c0), (.int .i64 c1)] ∧
  ∀ H_2 : Heap, H_2 = setAll H_1 b1 0 [(.int .i64 c0), (.int .i64 c1)] →
  ∃ v : Int, cellAt H_2 b1 1 = some (.int .i64 v) ∧
  Inv (IntKind.i64.wrap (sum + v)) (IntKind.i64.wrap (t11 + 1)) H_2 ∧ mu (IntKind.i64.wrap (sum + v)) (IntKind.i64.wrap (t11 + 1)) H_2 < mu sum t11 H_) ∧
  (((decide (t11 < (vn : Int)))) = false →
  K (.int .i64 sum) H_)

def disk_Pending.code (db : Nat) (do_ : Nat) (H : Heap) (K : Value → Heap → Prop) : Prop :=
  ∃ va : Option Addr, ∃ vn : Nat, ∃ vc : Nat, cellAt H db (do_ + 1) = some (.slice va vn vc) ∧
  ∃ (Inv : Int → Int → Heap → Prop) (mu : Int → Int → Heap → Nat), Inv 0 0 H ∧
  ∀ (sum : Int) (t11 : Int), ∀ H_ : Heap, Inv sum t11 H_ → disk_Pending.l1 K va vn Inv mu sum t11 H_

def disk_Pending.ann : Ann := (.seq .reg (.seq .reg (.seq (.seq .reg (.blk (.loop [(3, .one (.int .i64)), (11, .one (.int .i64))] (.seq .reg (.seq (.cond .no .no) (.seq (.blk (.seq .reg .reg)) .reg)))))) (.seq .reg .no))))

theorem disk_Pending.eq (db : Nat) (do_ : Nat) (H : Heap) (K : Value → Heap → Prop) : vcFun X Try.f23 disk_Pending.ann [(.pointer (some ⟨db, do_, none⟩))] H K = disk_Pending.code db do_ H K := by kernel_rfl

theorem disk_Pending.call {db : Nat} {do_ : Nat} {H : Heap} {K : Value → Heap → Prop} (h : disk_Pending.code db do_ H K) : CallF Try.prog 23 #[(.pointer (some ⟨db, do_, none⟩))] H K :=
  callF_of_eq (X := X) X_P X_wide X_bodied Try.func23 (disk_Pending.eq db do_ H K) h

def disk_Crash.y1 (b : Nat) (b1 : Nat) (H_4 : Heap) (R : Loop) (vs : List Value) (H_5 : Heap) (K_ : Value → Heap → Prop) : Prop :=
  ∃ y : Int, ∃ y0 : Int, ∃ y1 : Int, vs = [(.int .i64 y), (.agg #[(.int .i64 y0), (.int .i64 y1)])] ∧
  H_5[H_4.size + 1]? = some (.loop R) ∧
  ∀ (b2 : Nat) (H_6 : Heap), b2 = H_5.size → H_6 = H_5.push (.cells #[(.int .i64 0), (.int .i64 0)] 109) →
  canSet H_6 b2 0 [(.int .i64 y0), (.int .i64 y1)] ∧
  ∀ H_7 : Heap, H_7 = setAll H_6 b2 0 [(.int .i64 y0), (.int .i64 y1)] →
  H_7[H_4.size + 1]? = some (.loop R) ∧
  ∀ H_8 : Heap, H_8 = setLoop H_7 (H_4.size + 1) { R with state := .busy } →
  ∃ v2 : Int, cellAt H_8 b1 0 = some (.int .i64 v2) ∧
  (((decide (v2 ≤ 0))) = true →
  H_8[H_4.size + 1]? = some (.loop { R with state := .busy }) ∧ K_ (.bool false) (setLoop H_8 (H_4.size + 1) { R with state := .done, pending := some (.exit 0) })) ∧
  (((decide (v2 ≤ 0))) = false →
  ∃ v3 : Option Addr, cellAt H_8 b 0 = some (.pointer v3) ∧
  ∃ v4 : Int, cellAt H_8 b2 0 = some (.int .i64 v4) ∧
  ∃ v5 : Int, cellAt H_8 b2 1 = some (.int .i64 v5) ∧
  ∃ v6 : Int, cellAt H_8 b1 0 = some (.int .i64 v6) ∧
  CallF Try.prog 65 #[(.pointer v3), (.int .i64 v4), (.int .i64 (if v6 < v5 then v6 else v5))] H_8 fun u2 H_9 => u2 = (.tuple #[]) ∧
  ∃ v7 : Int, cellAt H_9 b1 0 = some (.int .i64 v7) ∧
  ∃ v8 : Int, cellAt H_9 b2 1 = some (.int .i64 v8) ∧
  canSet H_9 b1 0 [(.int .i64 (IntKind.i64.wrap (v7 - v8)))] ∧
  ∀ H_10 : Heap, H_10 = setAll H_9 b1 0 [(.int .i64 (IntKind.i64.wrap (v7 - v8)))] →
  H_10[H_4.size + 1]? = some (.loop { R with state := .busy }) ∧ K_ (.bool true) (setLoop H_10 (H_4.size + 1) R))

def disk_Crash.code (db : Nat) (do_ : Nat) (keep : Int) (H : Heap) (K : Value → Heap → Prop) : Prop :=
  ∀ (b : Nat) (H_ : Heap), b = H.size → H_ = H.push (.cells #[(.pointer (some ⟨db, do_, none⟩))] 25) →
  ∃ v : Option Addr, cellAt H_ b 0 = some (.pointer v) ∧
  CallF Try.prog 23 #[(.pointer v)] H_ fun u H_1 => ∃ r : Int, u = (.int .i64 r) ∧
  ∀ (b1 : Nat) (H_2 : Heap), b1 = H_1.size → H_2 = H_1.push (.cells #[(.int .i64 0)] 3) →
  canSet H_2 b1 0 [(.int .i64 (IntKind.i64.wrap (r - (if 0 > keep then 0 else keep))))] ∧
  ∀ H_3 : Heap, H_3 = setAll H_2 b1 0 [(.int .i64 (IntKind.i64.wrap (r - (if 0 > keep then 0 else keep))))] →
  ∃ v1 : Option Addr, cellAt H_3 b 0 = some (.pointer v1) ∧
  NN v1 (
  ∃ va : Option Addr, ∃ vn : Nat, ∃ vc : Nat, cellAt H_3 (adrB v1) ((adrO v1) + 1) = some (.slice va vn vc) ∧
  CallF Try.prog 64 #[(.slice va vn vc)] H_3 fun u1 H_4 => ∃ rf : FuncId, ∃ rl : List Value, u1 = (.func (.func rf) #[] ⟨rl⟩) ∧
  memN rf X.calls = true ∧
  ∀ R : Loop, R.state = .ready → R.pending = none →
  (∀ (vs : List Value) (H_5 : Heap) (K_ : Value → Heap → Prop), disk_Crash.y1 b b1 H_4 R vs H_5 K_ → YieldF Try.prog (H_4.size + 1) vs H_5 K_) →
  CallF Try.prog rf ⟨(.func (.yield (H_4.size + 1)) #[] #[]) :: rl⟩ ((H_4.push (.deferred (some []))).push (.loop R)) fun u3 H_11 => ∃ (st : LoopState) (pd : Option Code), st ≠ .busy ∧ H_11[H_4.size + 1]? = some (.loop { R with state := st, pending := pd }) ∧
  ∀ H_12 : Heap, H_12 = setLoop H_11 (H_4.size + 1) { R with state := .exhausted, pending := pd } →
  ((pd = none ∧
  ∃ v9 : Option Addr, cellAt H_12 b 0 = some (.pointer v9) ∧
  NN v9 (
  canSet H_12 (adrB v9) ((adrO v9) + 1) [(.slice none 0 0)] ∧
  ∀ H_13 : Heap, H_13 = setAll H_12 (adrB v9) ((adrO v9) + 1) [(.slice none 0 0)] →
  H_13[H_4.size]? = some (.deferred (some [])) ∧
  K (.tuple #[]) (H_13.setIfInBounds H_4.size (.deferred none)))) ∨
  pd = (some (.exit 0)) ∧
  ∃ v10 : Option Addr, cellAt H_12 b 0 = some (.pointer v10) ∧
  NN v10 (
  canSet H_12 (adrB v10) ((adrO v10) + 1) [(.slice none 0 0)] ∧
  ∀ H_14 : Heap, H_14 = setAll H_12 (adrB v10) ((adrO v10) + 1) [(.slice none 0 0)] →
  H_14[H_4.size]? = some (.deferred (some [])) ∧
  K (.tuple #[]) (H_14.setIfInBounds H_4.size (.deferred none)))))

def disk_Crash.ann : Ann := (.seq .reg (.seq .reg (.seq (.seq .reg (.blk (.rng [.one (.int .i64), .agg [.int .i64, .int .i64]] [none, (some (.exit 0))] .reg (.blk (.seq (.seq .reg (.cond .no .no)) (.seq .reg .reg)))))) .reg)))

theorem disk_Crash.eq (db : Nat) (do_ : Nat) (keep : Int) (H : Heap) (K : Value → Heap → Prop) : vcFun X Try.f22 disk_Crash.ann [(.pointer (some ⟨db, do_, none⟩)), (.int .i64 keep)] H K = disk_Crash.code db do_ keep H K := by kernel_rfl

theorem disk_Crash.call {db : Nat} {do_ : Nat} {keep : Int} {H : Heap} {K : Value → Heap → Prop} (h : disk_Crash.code db do_ keep H K) : CallF Try.prog 22 #[(.pointer (some ⟨db, do_, none⟩)), (.int .i64 keep)] H K :=
  callF_of_eq (X := X) X_P X_wide X_bodied Try.func22 (disk_Crash.eq db do_ keep H K) h

def disk_Clone.l1 (db : Nat) (do_ : Nat) (K : Value → Heap → Prop) (r : Option Nat) (it : Nat) (Inv : Heap → Prop) (mu : Heap → Nat) (H_2 : Heap) : Prop :=
  RunW Try.prog (Instr.next (.pointer (some ⟨it, 0, none⟩)) false 0) H_2 fun u2 H_3 =>
  (u2 = (.tuple #[(.bool false)]) ∧
  ((false) = true →
  ∃ k : Int, ∃ xa : Option Addr, ∃ xn : Nat, ∃ xc : Nat, ReadRun Try.prog (Instr.entry (.pointer (some ⟨it, 0, none⟩))) H_3 (.tuple #[(.int .i64 k), (.slice xa xn xc)]) ∧
  CallF Try.prog 61 #[(.slice xa xn xc)] H_3 fun u3 H_4 => ∃ ra : Option Addr, ∃ rn : Nat, ∃ rc : Nat, u3 = (.slice ra rn rc) ∧
  RunW Try.prog (Instr.mapUpdate 98 (.map r) (.int .i64 k) (.slice ra rn rc)) H_4 fun u4 H_5 =>
  Inv H_5 ∧ mu H_5 < mu H_2) ∧
  ((false) = false →
  ∃ va : Option Addr, ∃ vn : Nat, ∃ vc : Nat, cellAt H_3 db (do_ + 1) = some (.slice va vn vc) ∧
  CallF Try.prog 63 #[(.slice va vn vc)] H_3 fun u5 H_6 => ∃ ra1 : Option Addr, ∃ rn1 : Nat, ∃ rc1 : Nat, u5 = (.slice ra1 rn1 rc1) ∧
  ∀ (b : Nat) (H_7 : Heap), b = H_6.size → H_7 = H_6.push (.cells #[(.map r), (.slice ra1 rn1 rc1)] 101) →
  K (.pointer (some ⟨b, 0, none⟩)) H_7)) ∨
  (∃ k1 x : Value, u2 = (.tuple #[(.bool true), k1, x]) ∧
  ((true) = true →
  ∃ k2 : Int, ∃ xa1 : Option Addr, ∃ xn1 : Nat, ∃ xc1 : Nat, ReadRun Try.prog (Instr.entry (.pointer (some ⟨it, 0, none⟩))) H_3 (.tuple #[(.int .i64 k2), (.slice xa1 xn1 xc1)]) ∧
  CallF Try.prog 61 #[(.slice xa1 xn1 xc1)] H_3 fun u6 H_8 => ∃ ra2 : Option Addr, ∃ rn2 : Nat, ∃ rc2 : Nat, u6 = (.slice ra2 rn2 rc2) ∧
  RunW Try.prog (Instr.mapUpdate 98 (.map r) (.int .i64 k2) (.slice ra2 rn2 rc2)) H_8 fun u7 H_9 =>
  Inv H_9 ∧ mu H_9 < mu H_2) ∧
  ((true) = false →
  ∃ va1 : Option Addr, ∃ vn1 : Nat, ∃ vc1 : Nat, cellAt H_3 db (do_ + 1) = some (.slice va1 vn1 vc1) ∧
  CallF Try.prog 63 #[(.slice va1 vn1 vc1)] H_3 fun u8 H_10 => ∃ ra3 : Option Addr, ∃ rn3 : Nat, ∃ rc3 : Nat, u8 = (.slice ra3 rn3 rc3) ∧
  ∀ (b1 : Nat) (H_11 : Heap), b1 = H_10.size → H_11 = H_10.push (.cells #[(.map r), (.slice ra3 rn3 rc3)] 101) →
  K (.pointer (some ⟨b1, 0, none⟩)) H_11))

def disk_Clone.code (db : Nat) (do_ : Nat) (H : Heap) (K : Value → Heap → Prop) : Prop :=
  ∃ v : Option Nat, cellAt H db do_ = some (.map v) ∧
  CallF Try.prog 62 #[(.map v)] H fun u H_ => ∃ r : Option Nat, u = (.map r) ∧
  ∃ v1 : Option Nat, cellAt H_ db do_ = some (.map v1) ∧
  RunW Try.prog (Instr.range 98 (.map v1)) H_ fun u1 H_1 =>
  ∃ it : Nat, u1 = .pointer (some ⟨it, 0, none⟩) ∧
  ∃ (Inv : Heap → Prop) (mu : Heap → Nat), Inv H_1 ∧
  ∀ H_2 : Heap, Inv H_2 → disk_Clone.l1 db do_ K r it Inv mu H_2

def disk_Clone.ann : Ann := (.seq .reg (.seq .reg (.seq (.seq .reg (.blk (.loop [] (.seq .reg (.seq (.cond .no .no) (.blk (.seq .reg .reg))))))) (.seq .reg .no))))

theorem disk_Clone.eq (db : Nat) (do_ : Nat) (H : Heap) (K : Value → Heap → Prop) : vcFun (X.nx [(18, .one (.int .i64), .one (.slice))]) Try.f21 disk_Clone.ann [(.pointer (some ⟨db, do_, none⟩))] H K = disk_Clone.code db do_ H K := by kernel_rfl

theorem disk_Clone.call {db : Nat} {do_ : Nat} {H : Heap} {K : Value → Heap → Prop} (h : disk_Clone.code db do_ H K) : CallF Try.prog 21 #[(.pointer (some ⟨db, do_, none⟩))] H K :=
  callF_of_eq (X := (X.nx [(18, .one (.int .i64), .one (.slice))])) X_P X_wide X_bodied Try.func21 (disk_Clone.eq db do_ H K) h

def SameBytes.l1 (aa : Option Addr) (an : Nat) (ba : Option Addr) (bn : Nat) (K : Value → Heap → Prop) (Inv : Int → Heap → Prop) (mu : Int → Heap → Nat) (i : Int) (H_ : Heap) : Prop :=
  (((decide (i < (an : Int)))) = true →
  ((0 : Int) ≤ i ∧ i < (an : Int)) ∧ ∃ b o : Nat, (aa = some ⟨b, o, none⟩) ∧
  ∃ v : Int, cellAt H_ b (o + i.toNat) = some (.int .u8 v) ∧
  ((0 : Int) ≤ i ∧ i < (bn : Int)) ∧ ∃ b1 o1 : Nat, (ba = some ⟨b1, o1, none⟩) ∧
  ∃ v1 : Int, cellAt H_ b1 (o1 + i.toNat) = some (.int .u8 v1) ∧
  (((!decide (v = v1))) = true →
  K (.bool false) H_) ∧
  (((!decide (v = v1))) = false →
  Inv (IntKind.i64.wrap (i + 1)) H_ ∧ mu (IntKind.i64.wrap (i + 1)) H_ < mu i H_)) ∧
  (((decide (i < (an : Int)))) = false →
  K (.bool true) H_)

def SameBytes.code (aa : Option Addr) (an : Nat) (ac : Nat) (ba : Option Addr) (bn : Nat) (bc : Nat) (H : Heap) (K : Value → Heap → Prop) : Prop :=
  (((!decide ((an : Int) = (bn : Int)))) = true →
  K (.bool false) H) ∧
  (((!decide ((an : Int) = (bn : Int)))) = false →
  ∃ (Inv : Int → Heap → Prop) (mu : Int → Heap → Nat), Inv 0 H ∧
  ∀ (i : Int), ∀ H_ : Heap, Inv i H_ → SameBytes.l1 aa an ba bn K Inv mu i H_)

def SameBytes.ann : Ann := (.seq .reg (.seq (.seq .reg (.cond (.seq .reg .no) .no)) (.seq (.seq .reg (.blk (.loop [(5, .one (.int .i64))] (.seq (.seq .reg (.cond .no .no)) (.seq (.blk (.seq .reg (.cond (.seq .reg .no) .no))) .reg))))) (.seq .reg .no))))

theorem SameBytes.eq (aa : Option Addr) (an : Nat) (ac : Nat) (ba : Option Addr) (bn : Nat) (bc : Nat) (H : Heap) (K : Value → Heap → Prop) : vcFun X Try.f20 SameBytes.ann [(.slice aa an ac), (.slice ba bn bc)] H K = SameBytes.code aa an ac ba bn bc H K := by kernel_rfl

theorem SameBytes.call {aa : Option Addr} {an : Nat} {ac : Nat} {ba : Option Addr} {bn : Nat} {bc : Nat} {H : Heap} {K : Value → Heap → Prop} (h : SameBytes.code aa an ac ba bn bc H K) : CallF Try.prog 20 #[(.slice aa an ac), (.slice ba bn bc)] H K :=
  callF_of_eq (X := X) X_P X_wide X_bodied Try.func20 (SameBytes.eq aa an ac ba bn bc H K) h

def R10_Disk_Read.r1 (Inv : (Option Addr) → Nat → Nat → Int → Heap → Prop) (mu : (Option Addr) → Nat → Nat → Int → Heap → Nat) (outa : Option Addr) (outn : Nat) (outc : Nat) (i : Int) (H_1 : Heap) (outa1 : Option Addr) (outn1 : Nat) (outc1 : Nat) (H_2 : Heap) : Prop :=
  Inv outa1 outn1 outc1 (IntKind.i64.wrap (i + 1)) H_2 ∧ mu outa1 outn1 outc1 (IntKind.i64.wrap (i + 1)) H_2 < mu outa outn outc i H_1

def R10_Disk_Read.l2 (db : Nat) (do_ : Nat) (file : Int) (K : Value → Heap → Prop) (Inv : (Option Addr) → Nat → Nat → Int → Heap → Prop) (mu : (Option Addr) → Nat → Nat → Int → Heap → Nat) (outa : Option Addr) (outn : Nat) (outc : Nat) (i : Int) (H_1 : Heap) : Prop :=
  ∃ va : Option Addr, ∃ vn : Nat, ∃ vc : Nat, cellAt H_1 db do_ = some (.slice va vn vc) ∧
  (((decide (i < (vn : Int)))) = true →
  ∃ va1 : Option Addr, ∃ vn1 : Nat, ∃ vc1 : Nat, cellAt H_1 db do_ = some (.slice va1 vn1 vc1) ∧
  ((0 : Int) ≤ i ∧ i < (vn1 : Int)) ∧ ∃ b1 o : Nat, (va1 = some ⟨b1, o, none⟩) ∧
  ∃ v : Int, cellAt H_1 b1 (o + i.toNat * 2) = some (.int .i64 v) ∧
  ∀ Jn : (Option Addr) → Nat → Nat → Heap → Prop, (∀ (outa1 : Option Addr) (outn1 : Nat) (outc1 : Nat), ∀ H_2 : Heap, R10_Disk_Read.r1 Inv mu outa outn outc i H_1 outa1 outn1 outc1 H_2 → Jn outa1 outn1 outc1 H_2) →
  (((decide (v = file))) = true →
  ∃ va2 : Option Addr, ∃ vn2 : Nat, ∃ vc2 : Nat, cellAt H_1 db do_ = some (.slice va2 vn2 vc2) ∧
  ((0 : Int) ≤ i ∧ i < (vn2 : Int)) ∧ ∃ b2 o1 : Nat, (va2 = some ⟨b2, o1, none⟩) ∧
  ∃ v1 : Int, cellAt H_1 b2 (o1 + i.toNat * 2 + 1) = some (.int .u8 v1) ∧
  ∀ (b3 : Nat) (H_3 : Heap), b3 = H_1.size → H_3 = H_1.push (.cells #[(.int .u8 v1)] 5) →
  RunW Try.prog (Builtin.append_ #[32, 32] 32 #[(.slice outa outn outc), (.slice (some ⟨b3, 0, none⟩) 1 1)]) H_3 fun u H_4 =>
  ∃ sa : Option Addr, ∃ sn : Nat, ∃ sc : Nat, u = (.slice sa sn sc) ∧
  Jn sa sn sc H_4) ∧
  (((decide (v = file))) = false →
  Jn outa outn outc H_1)) ∧
  (((decide (i < (vn : Int)))) = false →
  K (.slice outa outn outc) H_1)

def R10_Disk_Read.code (db : Nat) (do_ : Nat) (file : Int) (H : Heap) (K : Value → Heap → Prop) : Prop :=
  ∀ (b : Nat) (H_ : Heap), b = H.size → H_ = H.push (.cells #[] 5) →
  ∃ (Inv : (Option Addr) → Nat → Nat → Int → Heap → Prop) (mu : (Option Addr) → Nat → Nat → Int → Heap → Nat), Inv (some ⟨b, 0, none⟩) 0 0 0 H_ ∧
  ∀ (outa : Option Addr) (outn : Nat) (outc : Nat) (i : Int), ∀ H_1 : Heap, Inv outa outn outc i H_1 → R10_Disk_Read.l2 db do_ file K Inv mu outa outn outc i H_1

def R10_Disk_Read.ann : Ann := (.seq .reg (.seq .reg (.seq (.seq .reg (.blk (.loop [(5, .one (.slice)), (6, .one (.int .i64))] (.seq (.seq .reg (.cond .no .no)) (.seq (.blk (.seq .reg (.condJ [(5, .one (.slice))] .reg .no))) .reg))))) (.seq .reg .no))))

theorem R10_Disk_Read.eq (db : Nat) (do_ : Nat) (file : Int) (H : Heap) (K : Value → Heap → Prop) : vcFun X Try.f19 R10_Disk_Read.ann [(.pointer (some ⟨db, do_, none⟩)), (.int .i64 file)] H K = R10_Disk_Read.code db do_ file H K := by kernel_rfl

theorem R10_Disk_Read.call {db : Nat} {do_ : Nat} {file : Int} {H : Heap} {K : Value → Heap → Prop} (h : R10_Disk_Read.code db do_ file H K) : CallF Try.prog 19 #[(.pointer (some ⟨db, do_, none⟩)), (.int .i64 file)] H K :=
  callF_of_eq (X := X) X_P X_wide X_bodied Try.func19 (R10_Disk_Read.eq db do_ file H K) h

def disk_Read.code (db : Nat) (do_ : Nat) (file : Int) (H : Heap) (K : Value → Heap → Prop) : Prop :=
  ∃ v : Option Nat, cellAt H db do_ = some (.map v) ∧
  ∃ ma : Option Addr, ∃ mn : Nat, ∃ mc : Nat, ∃ there : Bool, ReadRun Try.prog (Instr.lookup 98 (.map v) (.int .i64 file) true) H (.tuple #[(.slice ma mn mc), (.bool there)]) ∧
  (((!there)) = true →
  K (.tuple #[(.slice none 0 0), (.int .i64 23)]) H) ∧
  (((!there)) = false →
  CallF Try.prog 61 #[(.slice ma mn mc)] H fun u H_ => ∃ ra : Option Addr, ∃ rn : Nat, ∃ rc : Nat, u = (.slice ra rn rc) ∧
  K (.tuple #[(.slice ra rn rc), (.int .i64 0)]) H_)

def disk_Read.ann : Ann := (.seq .reg (.seq .reg (.seq (.seq .reg (.cond (.seq .reg .no) .no)) (.seq .reg .no))))

theorem disk_Read.eq (db : Nat) (do_ : Nat) (file : Int) (H : Heap) (K : Value → Heap → Prop) : vcFun X Try.f18 disk_Read.ann [(.pointer (some ⟨db, do_, none⟩)), (.int .i64 file)] H K = disk_Read.code db do_ file H K := by kernel_rfl

theorem disk_Read.call {db : Nat} {do_ : Nat} {file : Int} {H : Heap} {K : Value → Heap → Prop} (h : disk_Read.code db do_ file H K) : CallF Try.prog 18 #[(.pointer (some ⟨db, do_, none⟩)), (.int .i64 file)] H K :=
  callF_of_eq (X := X) X_P X_wide X_bodied Try.func18 (disk_Read.eq db do_ file H K) h

def Agree.r1 (K : Value → Heap → Prop) (Inv : Int → Heap → Prop) (mu : Int → Heap → Nat) (i : Int) (H_2 : Heap) (t68 : Bool) (H_4 : Heap) : Prop :=
  ((t68) = true →
  K (.bool false) H_4) ∧
  ((t68) = false →
  Inv (IntKind.i64.wrap (i + 1)) H_4 ∧ mu (IntKind.i64.wrap (i + 1)) H_4 < mu i H_2)

def Agree.l2 (db : Nat) (do_ : Nat) (rb : Nat) (ro : Nat) (K : Value → Heap → Prop) (ra : Option Addr) (rn : Nat) (Inv : Int → Heap → Prop) (mu : Int → Heap → Nat) (i : Int) (H_2 : Heap) : Prop :=
  (((decide (i < (rn : Int)))) = true →
  ((0 : Int) ≤ i ∧ i < (rn : Int)) ∧ ∃ b o : Nat, (ra = some ⟨b, o, none⟩) ∧
  ∃ v : Int, cellAt H_2 b (o + i.toNat) = some (.int .i64 v) ∧
  CallF Try.prog 18 #[(.pointer (some ⟨db, do_, none⟩)), (.int .i64 v)] H_2 fun u1 H_3 => ∃ ra1 : Option Addr, ∃ rn1 : Nat, ∃ rc1 : Nat, ∃ r : Int, u1 = (.tuple #[(.slice ra1 rn1 rc1), (.int .i64 r)]) ∧
  ∀ Jn1 : Bool → Heap → Prop, (∀ (t68 : Bool), ∀ H_4 : Heap, Agree.r1 K Inv mu i H_2 t68 H_4 → Jn1 t68 H_4) →
  (((!decide (r = 0)) = false) → ((0 : Int) ≤ i ∧ i < (rn : Int))) ∧ ∃ b1 o1 : Nat, (((!decide (r = 0)) = false) → (ra = some ⟨b1, o1, none⟩)) ∧
  ∃ v1 : Int, (((!decide (r = 0)) = false) → cellAt H_3 b1 (o1 + i.toNat) = some (.int .i64 v1)) ∧
  (((!decide (r = 0)) = false) →
  CallF Try.prog 19 #[(.pointer (some ⟨rb, ro, none⟩)), (.int .i64 v1)] H_3 fun u2 H_5 => ∃ ra2 : Option Addr, ∃ rn2 : Nat, ∃ rc2 : Nat, u2 = (.slice ra2 rn2 rc2) ∧
  ∃ r1 : Bool, CallQ Try.prog 20 #[(.slice ra1 rn1 rc1), (.slice ra2 rn2 rc2)] H_5 (.bool r1) ∧
  Jn1 (!r1) H_5) ∧
  (¬ ((!decide (r = 0)) = false) →
  Jn1 true H_3)) ∧
  (((decide (i < (rn : Int)))) = false →
  K (.bool true) H_2)

def Agree.r3 (db : Nat) (do_ : Nat) (rb : Nat) (ro : Nat) (K : Value → Heap → Prop) (ra : Option Addr) (rn : Nat) (t40 : Bool) (H_1 : Heap) : Prop :=
  ((t40) = true →
  K (.bool false) H_1) ∧
  ((t40) = false →
  ∃ (Inv : Int → Heap → Prop) (mu : Int → Heap → Nat), Inv 0 H_1 ∧
  ∀ (i : Int), ∀ H_2 : Heap, Inv i H_2 → Agree.l2 db do_ rb ro K ra rn Inv mu i H_2)

def Agree.code (db : Nat) (do_ : Nat) (rb : Nat) (ro : Nat) (H : Heap) (K : Value → Heap → Prop) : Prop :=
  CallF Try.prog 60 #[(.pointer (some ⟨rb, ro, none⟩))] H fun u H_ => ∃ ra : Option Addr, ∃ rn : Nat, ∃ rc : Nat, u = (.slice ra rn rc) ∧
  ∀ Jn : Bool → Heap → Prop, (∀ (t40 : Bool), ∀ H_1 : Heap, Agree.r3 db do_ rb ro K ra rn t40 H_1 → Jn t40 H_1) →
  CallF Try.prog 24 #[(.pointer (some ⟨db, do_, none⟩))] H_ fun u3 H_6 => ∃ ra3 : Option Addr, ∃ rn3 : Nat, ∃ rc3 : Nat, u3 = (.slice ra3 rn3 rc3) ∧
  ∃ r2 : Bool, CallQ Try.prog 55 #[(.slice ra3 rn3 rc3), (.slice ra rn rc)] H_6 (.bool r2) ∧
  (((!r2) = false) → True) ∧
  ∃ va : Option Addr, ∃ vn : Nat, ∃ vc : Nat, (((!r2) = false) → cellAt H_6 rb ro = some (.slice va vn vc)) ∧
  (((!r2) = false) → True) ∧
  ∃ v2 : Int, (((!r2) = false) → cellAt H_6 rb (ro + 1) = some (.int .i64 v2)) ∧
  (((!r2) = false) →
  CallF Try.prog 23 #[(.pointer (some ⟨db, do_, none⟩))] H_6 fun u4 H_7 => ∃ r3 : Int, u4 = (.int .i64 r3) ∧
  (((!r2) = false) → cellAt H_7 rb (ro + 1) = some (.int .i64 v2)) ∧
  (((!r2) = false) → cellAt H_7 rb ro = some (.slice va vn vc)) ∧
  (((!decide (r3 = (IntKind.i64.wrap ((vn : Int) - v2)))) = false) → True) ∧
  ∃ va1 : Option Addr, ∃ vn1 : Nat, ∃ vc1 : Nat, (((!decide (r3 = (IntKind.i64.wrap ((vn : Int) - v2)))) = false) → cellAt H_7 rb ro = some (.slice va1 vn1 vc1)) ∧
  (((!decide (r3 = (IntKind.i64.wrap ((vn : Int) - v2)))) = false) →
  CallF Try.prog 25 #[(.pointer (some ⟨db, do_, none⟩))] H_7 fun u5 H_8 => ∃ r4 : Int, u5 = (.int .i64 r4) ∧
  (((!decide (r3 = (IntKind.i64.wrap ((vn : Int) - v2)))) = false) → cellAt H_8 rb ro = some (.slice va1 vn1 vc1)) ∧
  Jn (!decide (r4 = (vn1 : Int))) H_8) ∧
  (¬ ((!decide (r3 = (IntKind.i64.wrap ((vn : Int) - v2)))) = false) →
  (((!decide (r3 = (IntKind.i64.wrap ((vn : Int) - v2)))) = false) → cellAt H_7 rb ro = some (.slice va1 vn1 vc1)) ∧
  Jn true H_7)) ∧
  (¬ ((!r2) = false) →
  (((!r2) = false) → cellAt H_6 rb (ro + 1) = some (.int .i64 v2)) ∧
  (((!r2) = false) → cellAt H_6 rb ro = some (.slice va vn vc)) ∧
  ((true = false) → True) ∧
  ∃ va2 : Option Addr, ∃ vn2 : Nat, ∃ vc2 : Nat, ((true = false) → cellAt H_6 rb ro = some (.slice va2 vn2 vc2)) ∧
  ((true = false) →
  CallF Try.prog 25 #[(.pointer (some ⟨db, do_, none⟩))] H_6 fun u6 H_9 => ∃ r5 : Int, u6 = (.int .i64 r5) ∧
  ((true = false) → cellAt H_9 rb ro = some (.slice va2 vn2 vc2)) ∧
  Jn (!decide (r5 = (vn2 : Int))) H_9) ∧
  (¬ (true = false) →
  ((true = false) → cellAt H_6 rb ro = some (.slice va2 vn2 vc2)) ∧
  Jn true H_6))

def Agree.ann : Ann := (.seq .reg (.seq .reg (.seq (.seq (.regJ [(40, .one (.bool))]) (.cond (.seq .reg .no) .no)) (.seq (.seq .reg (.blk (.loop [(6, .one (.int .i64))] (.seq (.seq .reg (.cond .no .no)) (.seq (.blk (.seq .reg (.seq (.regJ [(68, .one (.bool))]) (.cond (.seq .reg .no) .no)))) .reg))))) (.seq .reg .no)))))

theorem Agree.eq (db : Nat) (do_ : Nat) (rb : Nat) (ro : Nat) (H : Heap) (K : Value → Heap → Prop) : vcFun X Try.f17 Agree.ann [(.pointer (some ⟨db, do_, none⟩)), (.pointer (some ⟨rb, ro, none⟩))] H K = Agree.code db do_ rb ro H K := by kernel_rfl

theorem Agree.call {db : Nat} {do_ : Nat} {rb : Nat} {ro : Nat} {H : Heap} {K : Value → Heap → Prop} (h : Agree.code db do_ rb ro H K) : CallF Try.prog 17 #[(.pointer (some ⟨db, do_, none⟩)), (.pointer (some ⟨rb, ro, none⟩))] H K :=
  callF_of_eq (X := X) X_P X_wide X_bodied Try.func17 (Agree.eq db do_ rb ro H K) h

def Do.r1 (K : Value → Heap → Prop) (H_1 : Heap) : Prop :=
  K (.bool true) H_1

def Do.l2 (Jn : Heap → Prop) (ra : Option Addr) (rn : Nat) (Inv : Int → Heap → Prop) (mu : Int → Heap → Nat) (i : Int) (H_6 : Heap) : Prop :=
  (((decide (i < (rn : Int)))) = true →
  ((0 : Int) ≤ i ∧ i < (rn : Int)) ∧ ∃ b2 o : Nat, (ra = some ⟨b2, o, none⟩) ∧
  ∃ v3 : Int, cellAt H_6 b2 (o + i.toNat) = some (.int .u8 v3) ∧
  ((0 : Int) ≤ i ∧ i < (rn : Int)) ∧ ∃ b3 o1 : Nat, (ra = some ⟨b3, o1, none⟩) ∧
  canSet H_6 b3 (o1 + i.toNat) [(.int .u8 (IntKind.u8.wrap (v3 + 1)))] ∧
  ∀ H_7 : Heap, H_7 = setAll H_6 b3 (o1 + i.toNat) [(.int .u8 (IntKind.u8.wrap (v3 + 1)))] →
  Inv (IntKind.i64.wrap (i + 1)) H_7 ∧ mu (IntKind.i64.wrap (i + 1)) H_7 < mu i H_6) ∧
  (((decide (i < (rn : Int)))) = false →
  Jn H_6)

def Do.r3 (Jn : Heap → Prop) (H_8 : Heap) : Prop :=
  Jn H_8

def Do.r4 (Jn1 : Heap → Prop) (H_13 : Heap) : Prop :=
  Jn1 H_13

def Do.code (db : Nat) (do_ : Nat) (rb : Nat) (ro : Nat) (c0 : Int) (c1 : Int) (c2 : Int) (c3a : Option Addr) (c3n : Nat) (c3c : Nat) (H : Heap) (K : Value → Heap → Prop) : Prop :=
  ∀ (b : Nat) (H_ : Heap), b = H.size → H_ = H.push (.cells #[(.int .i64 c0), (.int .i64 c1), (.int .i64 c2), (.slice c3a c3n c3c)] 34) →
  ∃ v : Int, cellAt H_ b 0 = some (.int .i64 v) ∧
  ∀ Jn : Heap → Prop, (∀ H_1 : Heap, Do.r1 K H_1 → Jn H_1) →
  (((decide (v = 0))) = true →
  ∃ va : Option Addr, ∃ vn : Nat, ∃ vc : Nat, cellAt H_ b 3 = some (.slice va vn vc) ∧
  CallF Try.prog 30 #[(.slice va vn vc)] H_ fun u H_2 => ∃ ra : Option Addr, ∃ rn : Nat, ∃ rc : Nat, u = (.slice ra rn rc) ∧
  ((2 : Int) ≠ 0) ∧
  ∃ v1 : Int, cellAt H_2 b 1 = some (.int .i64 v1) ∧
  ((0 : Int) ≤ 0 ∧ 0 ≤ (IntKind.i64.wrap (Int.tdiv (rn : Int) 2)) ∧ (IntKind.i64.wrap (Int.tdiv (rn : Int) 2)) ≤ (rc : Int)) ∧
  ((0 : Int) ≤ (IntKind.i64.wrap (Int.tdiv (rn : Int) 2)) ∧ (IntKind.i64.wrap (Int.tdiv (rn : Int) 2)) ≤ (rn : Int) ∧ (rn : Int) ≤ (rc : Int)) ∧
  ∃ v2 : Int, cellAt H_2 b 1 = some (.int .i64 v2) ∧
  ∃ va1 : Option Addr, ∃ vn1 : Nat, ∃ vc1 : Nat, cellAt H_2 b 3 = some (.slice va1 vn1 vc1) ∧
  ∀ (b1 : Nat) (H_3 : Heap), b1 = H_2.size → H_3 = H_2.push (.cells #[(.slice (slB ra 0 rc 1) ((IntKind.i64.wrap (Int.tdiv (rn : Int) 2)).toNat) rc), (.slice (slB ra ((IntKind.i64.wrap (Int.tdiv (rn : Int) 2)).toNat) rc 1) (rn - ((IntKind.i64.wrap (Int.tdiv (rn : Int) 2)).toNat)) (rc - ((IntKind.i64.wrap (Int.tdiv (rn : Int) 2)).toNat)))] 32) →
  cellAt H_3 b 3 = some (.slice va1 vn1 vc1) ∧
  cellAt H_3 b 1 = some (.int .i64 v2) ∧
  cellAt H_3 b 1 = some (.int .i64 v1) ∧
  CallF Try.prog 54 #[(.pointer (some ⟨db, do_, none⟩)), (.int .i64 v1), (.slice (some ⟨b1, 0, none⟩) 2 2)] H_3 fun u1 H_4 => ∃ r : Int, u1 = (.int .i64 r) ∧
  cellAt H_4 b 3 = some (.slice va1 vn1 vc1) ∧
  cellAt H_4 b 1 = some (.int .i64 v2) ∧
  CallF Try.prog 56 #[(.pointer (some ⟨rb, ro, none⟩)), (.int .i64 v2), (.slice va1 vn1 vc1)] H_4 fun u2 H_5 => ∃ r1 : Int, u2 = (.int .i64 r1) ∧
  (((!decide (r = r1))) = true →
  K (.bool false) H_5) ∧
  (((!decide (r = r1))) = false →
  ∃ (Inv : Int → Heap → Prop) (mu : Int → Heap → Nat), Inv 0 H_5 ∧
  ∀ (i : Int), ∀ H_6 : Heap, Inv i H_6 → Do.l2 Jn ra rn Inv mu i H_6)) ∧
  (((decide (v = 0))) = false →
  ∀ Jn1 : Heap → Prop, (∀ H_8 : Heap, Do.r3 Jn H_8 → Jn1 H_8) →
  (((decide (v = 1))) = true →
  CallF Try.prog 26 #[(.pointer (some ⟨db, do_, none⟩))] H_ fun u3 H_9 => u3 = (.tuple #[]) ∧
  CallF Try.prog 57 #[(.pointer (some ⟨rb, ro, none⟩))] H_9 fun u4 H_10 => u4 = (.tuple #[]) ∧
  Jn1 H_10) ∧
  (((decide (v = 1))) = false →
  (((decide (v = 2))) = true →
  ∃ v4 : Int, cellAt H_ b 1 = some (.int .i64 v4) ∧
  ∃ v5 : Int, cellAt H_ b 1 = some (.int .i64 v5) ∧
  CallF Try.prog 27 #[(.pointer (some ⟨db, do_, none⟩)), (.int .i64 v4)] H_ fun u5 H_11 => ∃ r2 : Int, u5 = (.int .i64 r2) ∧
  cellAt H_11 b 1 = some (.int .i64 v5) ∧
  CallF Try.prog 58 #[(.pointer (some ⟨rb, ro, none⟩)), (.int .i64 v5)] H_11 fun u6 H_12 => ∃ r3 : Int, u6 = (.int .i64 r3) ∧
  K (.bool (decide (r2 = r3))) H_12) ∧
  (((decide (v = 2))) = false →
  ∀ Jn2 : Heap → Prop, (∀ H_13 : Heap, Do.r4 Jn1 H_13 → Jn2 H_13) →
  (((decide (v = 3))) = true →
  ∃ v6 : Int, cellAt H_ b 2 = some (.int .i64 v6) ∧
  CallF Try.prog 22 #[(.pointer (some ⟨db, do_, none⟩)), (.int .i64 v6)] H_ fun u7 H_14 => u7 = (.tuple #[]) ∧
  ∃ v7 : Int, cellAt H_14 b 2 = some (.int .i64 v7) ∧
  CallF Try.prog 59 #[(.pointer (some ⟨rb, ro, none⟩)), (.int .i64 v7)] H_14 fun u8 H_15 => u8 = (.tuple #[]) ∧
  Jn2 H_15) ∧
  (((decide (v = 3))) = false →
  Jn2 H_))))

def Do.ann : Ann := (.seq .reg (.seq (.seq .reg (.blk (.seq .reg (.condJ [] (.seq .reg (.seq .reg (.seq (.seq .reg (.cond (.seq .reg .no) .no)) (.seq .reg (.blk (.loop [(9, .one (.int .i64))] (.seq (.seq .reg (.cond .no .no)) (.seq (.blk .reg) .reg)))))))) (.seq .reg (.condJ [] (.seq .reg .reg) (.seq .reg (.cond (.seq .reg .no) (.seq .reg (.condJ [] (.seq .reg .reg) .no)))))))))) (.seq .reg .no)))

theorem Do.eq (db : Nat) (do_ : Nat) (rb : Nat) (ro : Nat) (c0 : Int) (c1 : Int) (c2 : Int) (c3a : Option Addr) (c3n : Nat) (c3c : Nat) (H : Heap) (K : Value → Heap → Prop) : vcFun X Try.f16 Do.ann [(.pointer (some ⟨db, do_, none⟩)), (.pointer (some ⟨rb, ro, none⟩)), (.agg #[(.int .i64 c0), (.int .i64 c1), (.int .i64 c2), (.slice c3a c3n c3c)])] H K = Do.code db do_ rb ro c0 c1 c2 c3a c3n c3c H K := by kernel_rfl

theorem Do.call {db : Nat} {do_ : Nat} {rb : Nat} {ro : Nat} {c0 : Int} {c1 : Int} {c2 : Int} {c3a : Option Addr} {c3n : Nat} {c3c : Nat} {H : Heap} {K : Value → Heap → Prop} (h : Do.code db do_ rb ro c0 c1 c2 c3a c3n c3c H K) : CallF Try.prog 16 #[(.pointer (some ⟨db, do_, none⟩)), (.pointer (some ⟨rb, ro, none⟩)), (.agg #[(.int .i64 c0), (.int .i64 c1), (.int .i64 c2), (.slice c3a c3n c3c)])] H K :=
  callF_of_eq (X := X) X_P X_wide X_bodied Try.func16 (Do.eq db do_ rb ro c0 c1 c2 c3a c3n c3c H K) h

def disk_New.code  (H : Heap) (K : Value → Heap → Prop) : Prop :=
  ∀ (b : Nat) (H_ : Heap), b = H.size → H_ = H.push (.map #[] 0) →
  ∀ (b1 : Nat) (H_1 : Heap), b1 = H_.size → H_1 = H_.push (.cells #[(.map (some b)), (.slice none 0 0)] 101) →
  K (.pointer (some ⟨b1, 0, none⟩)) H_1

def disk_New.ann : Ann := (.seq .reg (.seq .reg .no))

theorem disk_New.eq  (H : Heap) (K : Value → Heap → Prop) : vcFun X Try.f15 disk_New.ann [] H K = disk_New.code  H K := by kernel_rfl

theorem disk_New.call  {H : Heap} {K : Value → Heap → Prop} (h : disk_New.code  H K) : CallF Try.prog 15 #[] H K :=
  callF_of_eq (X := X) X_P X_wide X_bodied Try.func15 (disk_New.eq  H K) h

def Great.l1 (callsa : Option Addr) (callsn : Nat) (K : Value → Heap → Prop) (Inv : Int → Heap → Prop) (mu : Int → Heap → Nat) (i : Int) (H_ : Heap) : Prop :=
  (((decide (i < (callsn : Int)))) = true →
  ((0 : Int) ≤ i ∧ i < (callsn : Int)) ∧ ∃ b o : Nat, (callsa = some ⟨b, o, none⟩) ∧
  ∃ va : Option Addr, ∃ vn : Nat, ∃ vc : Nat, cellAt H_ b (o + i.toNat * 4 + 3) = some (.slice va vn vc) ∧
  (((decide (200 < (vn : Int)))) = true →
  K (.bool true) H_) ∧
  (((decide (200 < (vn : Int)))) = false →
  Inv (IntKind.i64.wrap (i + 1)) H_ ∧ mu (IntKind.i64.wrap (i + 1)) H_ < mu i H_)) ∧
  (((decide (i < (callsn : Int)))) = false →
  K (.bool false) H_)

def Great.code (callsa : Option Addr) (callsn : Nat) (callsc : Nat) (H : Heap) (K : Value → Heap → Prop) : Prop :=
  (((decide (60 < (callsn : Int)))) = true →
  K (.bool true) H) ∧
  (((decide (60 < (callsn : Int)))) = false →
  ∃ (Inv : Int → Heap → Prop) (mu : Int → Heap → Nat), Inv 0 H ∧
  ∀ (i : Int), ∀ H_ : Heap, Inv i H_ → Great.l1 callsa callsn K Inv mu i H_)

def Great.ann : Ann := (.seq .reg (.seq (.seq .reg (.cond (.seq .reg .no) .no)) (.seq (.seq .reg (.blk (.loop [(3, .one (.int .i64))] (.seq (.seq .reg (.cond .no .no)) (.seq (.blk (.seq .reg (.cond (.seq .reg .no) .no))) .reg))))) (.seq .reg .no))))

theorem Great.eq (callsa : Option Addr) (callsn : Nat) (callsc : Nat) (H : Heap) (K : Value → Heap → Prop) : vcFun X Try.f14 Great.ann [(.slice callsa callsn callsc)] H K = Great.code callsa callsn callsc H K := by kernel_rfl

theorem Great.call {callsa : Option Addr} {callsn : Nat} {callsc : Nat} {H : Heap} {K : Value → Heap → Prop} (h : Great.code callsa callsn callsc H K) : CallF Try.prog 14 #[(.slice callsa callsn callsc)] H K :=
  callF_of_eq (X := X) X_P X_wide X_bodied Try.func14 (Great.eq callsa callsn callsc H K) h

def alive.r1 (K : Value → Heap → Prop) (t0 : Bool) (H_23 : Heap) : Prop :=
  K (.bool t0) H_23

def alive.code  (H : Heap) (K : Value → Heap → Prop) : Prop :=
  CallF Try.prog 15 #[] H fun u H_ => ∃ r : Option Addr, u = (.pointer r) ∧
  ((r.isNone) = true →
  K (.bool false) H_) ∧
  ((r.isNone) = false →
  ∀ (b : Nat) (H_1 : Heap), b = H_.size → H_1 = H_.push (.cells #[(.int .u8 97)] 5) →
  RunW Try.prog (convert 32 32 (.slice (some ⟨b, 0, none⟩) 1 1)) H_1 fun u1 H_2 =>
  ∃ sa : Option Addr, ∃ sn : Nat, ∃ sc : Nat, u1 = (.slice sa sn sc) ∧
  ∀ (b1 : Nat) (H_3 : Heap), b1 = H_2.size → H_3 = H_2.push (.cells #[(.int .u8 98)] 5) →
  RunW Try.prog (convert 32 32 (.slice (some ⟨b1, 0, none⟩) 1 1)) H_3 fun u2 H_4 =>
  ∃ sa1 : Option Addr, ∃ sn1 : Nat, ∃ sc1 : Nat, u2 = (.slice sa1 sn1 sc1) ∧
  ∀ (b2 : Nat) (H_5 : Heap), b2 = H_4.size → H_5 = H_4.push (.cells #[(.slice sa sn sc), (.slice sa1 sn1 sc1)] 32) →
  CallF Try.prog 54 #[(.pointer r), (.int .i64 1), (.slice (some ⟨b2, 0, none⟩) 2 2)] H_5 fun u3 H_6 => ∃ r1 : Int, u3 = (.int .i64 r1) ∧
  CallF Try.prog 26 #[(.pointer r)] H_6 fun u4 H_7 => u4 = (.tuple #[]) ∧
  ∀ (b3 : Nat) (H_8 : Heap), b3 = H_7.size → H_8 = H_7.push (.cells #[(.int .u8 99), (.int .u8 100)] 5) →
  RunW Try.prog (convert 32 32 (.slice (some ⟨b3, 0, none⟩) 2 2)) H_8 fun u5 H_9 =>
  ∃ sa2 : Option Addr, ∃ sn2 : Nat, ∃ sc2 : Nat, u5 = (.slice sa2 sn2 sc2) ∧
  ∀ (b4 : Nat) (H_10 : Heap), b4 = H_9.size → H_10 = H_9.push (.cells #[(.slice sa2 sn2 sc2)] 32) →
  CallF Try.prog 54 #[(.pointer r), (.int .i64 1), (.slice (some ⟨b4, 0, none⟩) 1 1)] H_10 fun u6 H_11 => ∃ r2 : Int, u6 = (.int .i64 r2) ∧
  ∀ (b5 : Nat) (H_12 : Heap), b5 = H_11.size → H_12 = H_11.push (.cells #[(.int .u8 101)] 5) →
  RunW Try.prog (convert 32 32 (.slice (some ⟨b5, 0, none⟩) 1 1)) H_12 fun u7 H_13 =>
  ∃ sa3 : Option Addr, ∃ sn3 : Nat, ∃ sc3 : Nat, u7 = (.slice sa3 sn3 sc3) ∧
  ∀ (b6 : Nat) (H_14 : Heap), b6 = H_13.size → H_14 = H_13.push (.cells #[(.slice sa3 sn3 sc3)] 32) →
  CallF Try.prog 54 #[(.pointer r), (.int .i64 0), (.slice (some ⟨b6, 0, none⟩) 1 1)] H_14 fun u8 H_15 => ∃ r3 : Int, u8 = (.int .i64 r3) ∧
  CallF Try.prog 27 #[(.pointer r), (.int .i64 1)] H_15 fun u9 H_16 => ∃ r4 : Int, u9 = (.int .i64 r4) ∧
  CallF Try.prog 23 #[(.pointer r)] H_16 fun u10 H_17 => ∃ r5 : Int, u10 = (.int .i64 r5) ∧
  CallF Try.prog 21 #[(.pointer r)] H_17 fun u11 H_18 => ∃ r6 : Option Addr, u11 = (.pointer r6) ∧
  CallF Try.prog 22 #[(.pointer r), (.int .i64 1)] H_18 fun u12 H_19 => u12 = (.tuple #[]) ∧
  CallF Try.prog 18 #[(.pointer r), (.int .i64 1)] H_19 fun u13 H_20 => ∃ ra : Option Addr, ∃ rn : Nat, ∃ rc : Nat, ∃ r7 : Int, u13 = (.tuple #[(.slice ra rn rc), (.int .i64 r7)]) ∧
  CallF Try.prog 18 #[(.pointer r), (.int .i64 0)] H_20 fun u14 H_21 => ∃ ra1 : Option Addr, ∃ rn1 : Nat, ∃ rc1 : Nat, ∃ r8 : Int, u14 = (.tuple #[(.slice ra1 rn1 rc1), (.int .i64 r8)]) ∧
  CallF Try.prog 27 #[(.pointer r), (.int .i64 1)] H_21 fun u15 H_22 => ∃ r9 : Int, u15 = (.int .i64 r9) ∧
  ((r6.isNone) = true →
  K (.bool false) H_22) ∧
  ((r6.isNone) = false →
  ∀ Jn : Bool → Heap → Prop, (∀ (t0 : Bool), ∀ H_23 : Heap, alive.r1 K t0 H_23 → Jn t0 H_23) →
  ((((((((((decide (r1 = 0)) && (decide (r2 = 0))) && (decide (r3 = 0))) && (decide (r4 = 21))) && (decide (r5 = 3))) && (decide (r7 = 0))) && (decide (r8 = 23))) && (decide (r9 = 0))) = true) →
  ∀ (b7 : Nat) (H_24 : Heap), b7 = H_22.size → H_24 = H_22.push (.cells #[(.int .u8 97), (.int .u8 98), (.int .u8 99)] 5) →
  RunW Try.prog (convert 32 32 (.slice (some ⟨b7, 0, none⟩) 3 3)) H_24 fun u16 H_25 =>
  ∃ sa4 : Option Addr, ∃ sn4 : Nat, ∃ sc4 : Nat, u16 = (.slice sa4 sn4 sc4) ∧
  ∃ r10 : Bool, CallQ Try.prog 20 #[(.slice ra rn rc), (.slice sa4 sn4 sc4)] H_25 (.bool r10) ∧
  ((r10 = true) →
  CallF Try.prog 25 #[(.pointer r)] H_25 fun u17 H_26 => ∃ r11 : Int, u17 = (.int .i64 r11) ∧
  (((decide (r11 = 0)) = true) →
  CallF Try.prog 25 #[(.pointer r6)] H_26 fun u18 H_27 => ∃ r12 : Int, u18 = (.int .i64 r12) ∧
  (((decide (r12 = 5)) = true) →
  CallF Try.prog 24 #[(.pointer r6)] H_27 fun u19 H_28 => ∃ ra2 : Option Addr, ∃ rn2 : Nat, ∃ rc2 : Nat, u19 = (.slice ra2 rn2 rc2) ∧
  ∀ (b8 : Nat) (H_29 : Heap), b8 = H_28.size → H_29 = H_28.push (.cells #[(.int .i64 0), (.int .i64 1)] 3) →
  ∃ r13 : Bool, CallQ Try.prog 55 #[(.slice ra2 rn2 rc2), (.slice (some ⟨b8, 0, none⟩) 2 2)] H_29 (.bool r13) ∧
  ((r13 = true) →
  CallF Try.prog 54 #[(.pointer r), (.int .i64 (-1)), (.slice none 0 0)] H_29 fun u20 H_30 => ∃ r14 : Int, u20 = (.int .i64 r14) ∧
  Jn (decide (r14 = 11)) H_30) ∧
  (¬ (r13 = true) →
  Jn false H_29)) ∧
  (¬ ((decide (r12 = 5)) = true) →
  ((false = true) →
  CallF Try.prog 54 #[(.pointer r), (.int .i64 (-1)), (.slice none 0 0)] H_27 fun u21 H_31 => ∃ r15 : Int, u21 = (.int .i64 r15) ∧
  Jn (decide (r15 = 11)) H_31) ∧
  (¬ (false = true) →
  Jn false H_27))) ∧
  (¬ ((decide (r11 = 0)) = true) →
  ((false = true) →
  CallF Try.prog 24 #[(.pointer r6)] H_26 fun u22 H_32 => ∃ ra3 : Option Addr, ∃ rn3 : Nat, ∃ rc3 : Nat, u22 = (.slice ra3 rn3 rc3) ∧
  ∀ (b9 : Nat) (H_33 : Heap), b9 = H_32.size → H_33 = H_32.push (.cells #[(.int .i64 0), (.int .i64 1)] 3) →
  ∃ r16 : Bool, CallQ Try.prog 55 #[(.slice ra3 rn3 rc3), (.slice (some ⟨b9, 0, none⟩) 2 2)] H_33 (.bool r16) ∧
  ((r16 = true) →
  CallF Try.prog 54 #[(.pointer r), (.int .i64 (-1)), (.slice none 0 0)] H_33 fun u23 H_34 => ∃ r17 : Int, u23 = (.int .i64 r17) ∧
  Jn (decide (r17 = 11)) H_34) ∧
  (¬ (r16 = true) →
  Jn false H_33)) ∧
  (¬ (false = true) →
  ((false = true) →
  CallF Try.prog 54 #[(.pointer r), (.int .i64 (-1)), (.slice none 0 0)] H_26 fun u24 H_35 => ∃ r18 : Int, u24 = (.int .i64 r18) ∧
  Jn (decide (r18 = 11)) H_35) ∧
  (¬ (false = true) →
  Jn false H_26)))) ∧
  (¬ (r10 = true) →
  ((false = true) →
  CallF Try.prog 25 #[(.pointer r6)] H_25 fun u25 H_36 => ∃ r19 : Int, u25 = (.int .i64 r19) ∧
  (((decide (r19 = 5)) = true) →
  CallF Try.prog 24 #[(.pointer r6)] H_36 fun u26 H_37 => ∃ ra4 : Option Addr, ∃ rn4 : Nat, ∃ rc4 : Nat, u26 = (.slice ra4 rn4 rc4) ∧
  ∀ (b10 : Nat) (H_38 : Heap), b10 = H_37.size → H_38 = H_37.push (.cells #[(.int .i64 0), (.int .i64 1)] 3) →
  ∃ r20 : Bool, CallQ Try.prog 55 #[(.slice ra4 rn4 rc4), (.slice (some ⟨b10, 0, none⟩) 2 2)] H_38 (.bool r20) ∧
  ((r20 = true) →
  CallF Try.prog 54 #[(.pointer r), (.int .i64 (-1)), (.slice none 0 0)] H_38 fun u27 H_39 => ∃ r21 : Int, u27 = (.int .i64 r21) ∧
  Jn (decide (r21 = 11)) H_39) ∧
  (¬ (r20 = true) →
  Jn false H_38)) ∧
  (¬ ((decide (r19 = 5)) = true) →
  ((false = true) →
  CallF Try.prog 54 #[(.pointer r), (.int .i64 (-1)), (.slice none 0 0)] H_36 fun u28 H_40 => ∃ r22 : Int, u28 = (.int .i64 r22) ∧
  Jn (decide (r22 = 11)) H_40) ∧
  (¬ (false = true) →
  Jn false H_36))) ∧
  (¬ (false = true) →
  ((false = true) →
  CallF Try.prog 24 #[(.pointer r6)] H_25 fun u29 H_41 => ∃ ra5 : Option Addr, ∃ rn5 : Nat, ∃ rc5 : Nat, u29 = (.slice ra5 rn5 rc5) ∧
  ∀ (b11 : Nat) (H_42 : Heap), b11 = H_41.size → H_42 = H_41.push (.cells #[(.int .i64 0), (.int .i64 1)] 3) →
  ∃ r23 : Bool, CallQ Try.prog 55 #[(.slice ra5 rn5 rc5), (.slice (some ⟨b11, 0, none⟩) 2 2)] H_42 (.bool r23) ∧
  ((r23 = true) →
  CallF Try.prog 54 #[(.pointer r), (.int .i64 (-1)), (.slice none 0 0)] H_42 fun u30 H_43 => ∃ r24 : Int, u30 = (.int .i64 r24) ∧
  Jn (decide (r24 = 11)) H_43) ∧
  (¬ (r23 = true) →
  Jn false H_42)) ∧
  (¬ (false = true) →
  ((false = true) →
  CallF Try.prog 54 #[(.pointer r), (.int .i64 (-1)), (.slice none 0 0)] H_25 fun u31 H_44 => ∃ r25 : Int, u31 = (.int .i64 r25) ∧
  Jn (decide (r25 = 11)) H_44) ∧
  (¬ (false = true) →
  Jn false H_25))))) ∧
  (¬ (((((((((decide (r1 = 0)) && (decide (r2 = 0))) && (decide (r3 = 0))) && (decide (r4 = 21))) && (decide (r5 = 3))) && (decide (r7 = 0))) && (decide (r8 = 23))) && (decide (r9 = 0))) = true) →
  ((false = true) →
  CallF Try.prog 25 #[(.pointer r)] H_22 fun u32 H_45 => ∃ r26 : Int, u32 = (.int .i64 r26) ∧
  (((decide (r26 = 0)) = true) →
  CallF Try.prog 25 #[(.pointer r6)] H_45 fun u33 H_46 => ∃ r27 : Int, u33 = (.int .i64 r27) ∧
  (((decide (r27 = 5)) = true) →
  CallF Try.prog 24 #[(.pointer r6)] H_46 fun u34 H_47 => ∃ ra6 : Option Addr, ∃ rn6 : Nat, ∃ rc6 : Nat, u34 = (.slice ra6 rn6 rc6) ∧
  ∀ (b12 : Nat) (H_48 : Heap), b12 = H_47.size → H_48 = H_47.push (.cells #[(.int .i64 0), (.int .i64 1)] 3) →
  ∃ r28 : Bool, CallQ Try.prog 55 #[(.slice ra6 rn6 rc6), (.slice (some ⟨b12, 0, none⟩) 2 2)] H_48 (.bool r28) ∧
  ((r28 = true) →
  CallF Try.prog 54 #[(.pointer r), (.int .i64 (-1)), (.slice none 0 0)] H_48 fun u35 H_49 => ∃ r29 : Int, u35 = (.int .i64 r29) ∧
  Jn (decide (r29 = 11)) H_49) ∧
  (¬ (r28 = true) →
  Jn false H_48)) ∧
  (¬ ((decide (r27 = 5)) = true) →
  ((false = true) →
  CallF Try.prog 54 #[(.pointer r), (.int .i64 (-1)), (.slice none 0 0)] H_46 fun u36 H_50 => ∃ r30 : Int, u36 = (.int .i64 r30) ∧
  Jn (decide (r30 = 11)) H_50) ∧
  (¬ (false = true) →
  Jn false H_46))) ∧
  (¬ ((decide (r26 = 0)) = true) →
  ((false = true) →
  CallF Try.prog 24 #[(.pointer r6)] H_45 fun u37 H_51 => ∃ ra7 : Option Addr, ∃ rn7 : Nat, ∃ rc7 : Nat, u37 = (.slice ra7 rn7 rc7) ∧
  ∀ (b13 : Nat) (H_52 : Heap), b13 = H_51.size → H_52 = H_51.push (.cells #[(.int .i64 0), (.int .i64 1)] 3) →
  ∃ r31 : Bool, CallQ Try.prog 55 #[(.slice ra7 rn7 rc7), (.slice (some ⟨b13, 0, none⟩) 2 2)] H_52 (.bool r31) ∧
  ((r31 = true) →
  CallF Try.prog 54 #[(.pointer r), (.int .i64 (-1)), (.slice none 0 0)] H_52 fun u38 H_53 => ∃ r32 : Int, u38 = (.int .i64 r32) ∧
  Jn (decide (r32 = 11)) H_53) ∧
  (¬ (r31 = true) →
  Jn false H_52)) ∧
  (¬ (false = true) →
  ((false = true) →
  CallF Try.prog 54 #[(.pointer r), (.int .i64 (-1)), (.slice none 0 0)] H_45 fun u39 H_54 => ∃ r33 : Int, u39 = (.int .i64 r33) ∧
  Jn (decide (r33 = 11)) H_54) ∧
  (¬ (false = true) →
  Jn false H_45)))) ∧
  (¬ (false = true) →
  ((false = true) →
  CallF Try.prog 25 #[(.pointer r6)] H_22 fun u40 H_55 => ∃ r34 : Int, u40 = (.int .i64 r34) ∧
  (((decide (r34 = 5)) = true) →
  CallF Try.prog 24 #[(.pointer r6)] H_55 fun u41 H_56 => ∃ ra8 : Option Addr, ∃ rn8 : Nat, ∃ rc8 : Nat, u41 = (.slice ra8 rn8 rc8) ∧
  ∀ (b14 : Nat) (H_57 : Heap), b14 = H_56.size → H_57 = H_56.push (.cells #[(.int .i64 0), (.int .i64 1)] 3) →
  ∃ r35 : Bool, CallQ Try.prog 55 #[(.slice ra8 rn8 rc8), (.slice (some ⟨b14, 0, none⟩) 2 2)] H_57 (.bool r35) ∧
  ((r35 = true) →
  CallF Try.prog 54 #[(.pointer r), (.int .i64 (-1)), (.slice none 0 0)] H_57 fun u42 H_58 => ∃ r36 : Int, u42 = (.int .i64 r36) ∧
  Jn (decide (r36 = 11)) H_58) ∧
  (¬ (r35 = true) →
  Jn false H_57)) ∧
  (¬ ((decide (r34 = 5)) = true) →
  ((false = true) →
  CallF Try.prog 54 #[(.pointer r), (.int .i64 (-1)), (.slice none 0 0)] H_55 fun u43 H_59 => ∃ r37 : Int, u43 = (.int .i64 r37) ∧
  Jn (decide (r37 = 11)) H_59) ∧
  (¬ (false = true) →
  Jn false H_55))) ∧
  (¬ (false = true) →
  ((false = true) →
  CallF Try.prog 24 #[(.pointer r6)] H_22 fun u44 H_60 => ∃ ra9 : Option Addr, ∃ rn9 : Nat, ∃ rc9 : Nat, u44 = (.slice ra9 rn9 rc9) ∧
  ∀ (b15 : Nat) (H_61 : Heap), b15 = H_60.size → H_61 = H_60.push (.cells #[(.int .i64 0), (.int .i64 1)] 3) →
  ∃ r38 : Bool, CallQ Try.prog 55 #[(.slice ra9 rn9 rc9), (.slice (some ⟨b15, 0, none⟩) 2 2)] H_61 (.bool r38) ∧
  ((r38 = true) →
  CallF Try.prog 54 #[(.pointer r), (.int .i64 (-1)), (.slice none 0 0)] H_61 fun u45 H_62 => ∃ r39 : Int, u45 = (.int .i64 r39) ∧
  Jn (decide (r39 = 11)) H_62) ∧
  (¬ (r38 = true) →
  Jn false H_61)) ∧
  (¬ (false = true) →
  ((false = true) →
  CallF Try.prog 54 #[(.pointer r), (.int .i64 (-1)), (.slice none 0 0)] H_22 fun u46 H_63 => ∃ r40 : Int, u46 = (.int .i64 r40) ∧
  Jn (decide (r40 = 11)) H_63) ∧
  (¬ (false = true) →
  Jn false H_22)))))))

def alive.ann : Ann := (.seq .reg (.seq .reg (.seq (.seq .reg (.cond (.seq .reg .no) .no)) (.seq .reg (.seq .reg (.seq .reg (.seq .reg (.seq .reg (.seq .reg (.seq .reg (.seq .reg (.seq .reg (.seq .reg (.seq .reg (.seq (.seq .reg (.cond (.seq .reg .no) .no)) (.seq (.regJ [(0, .one (.bool))]) .no))))))))))))))))

theorem alive.eq  (H : Heap) (K : Value → Heap → Prop) : vcFun X Try.f13 alive.ann [] H K = alive.code  H K := by kernel_rfl

theorem alive.call  {H : Heap} {K : Value → Heap → Prop} (h : alive.code  H K) : CallF Try.prog 13 #[] H K :=
  callF_of_eq (X := X) X_P X_wide X_bodied Try.func13 (alive.eq  H K) h

def DiskGone.r1 (Inv1 : Int → Int → Heap → Prop) (mu1 : Int → Int → Heap → Nat) (left : Int) (i1 : Int) (H_12 : Heap) (left1 : Int) (H_13 : Heap) : Prop :=
  Inv1 left1 (IntKind.i64.wrap (i1 + 1)) H_13 ∧ mu1 left1 (IntKind.i64.wrap (i1 + 1)) H_13 < mu1 left i1 H_12

def DiskGone.l2 (file : Int) (K : Value → Heap → Prop) (r1 : Bool) (r2 : Option Addr) (r4 : Option Addr) (ra2 : Option Addr) (rn2 : Nat) (Inv1 : Int → Int → Heap → Prop) (mu1 : Int → Int → Heap → Nat) (left : Int) (i1 : Int) (H_12 : Heap) : Prop :=
  (((decide (i1 < (rn2 : Int)))) = true →
  ∀ Jn : Int → Heap → Prop, (∀ (left1 : Int), ∀ H_13 : Heap, DiskGone.r1 Inv1 mu1 left i1 H_12 left1 H_13 → Jn left1 H_13) →
  ((0 : Int) ≤ i1 ∧ i1 < (rn2 : Int)) ∧ ∃ b2 o1 : Nat, (ra2 = some ⟨b2, o1, none⟩) ∧
  ∃ v : Int, cellAt H_12 b2 (o1 + i1.toNat) = some (.int .i64 v) ∧
  (((decide (v = file))) = true →
  Jn left H_12) ∧
  (((decide (v = file))) = false →
  ((0 : Int) ≤ i1 ∧ i1 < (rn2 : Int)) ∧ ∃ b3 o2 : Nat, (ra2 = some ⟨b3, o2, none⟩) ∧
  ∃ v1 : Int, cellAt H_12 b3 (o2 + i1.toNat) = some (.int .i64 v1) ∧
  CallF Try.prog 18 #[(.pointer r4), (.int .i64 v1)] H_12 fun u10 H_14 => ∃ ra3 : Option Addr, ∃ rn3 : Nat, ∃ rc3 : Nat, ∃ r8 : Int, u10 = (.tuple #[(.slice ra3 rn3 rc3), (.int .i64 r8)]) ∧
  ((0 : Int) ≤ i1 ∧ i1 < (rn2 : Int)) ∧ ∃ b4 o3 : Nat, (ra2 = some ⟨b4, o3, none⟩) ∧
  ∃ v2 : Int, cellAt H_14 b4 (o3 + i1.toNat) = some (.int .i64 v2) ∧
  CallF Try.prog 18 #[(.pointer r2), (.int .i64 v2)] H_14 fun u11 H_15 => ∃ ra4 : Option Addr, ∃ rn4 : Nat, ∃ rc4 : Nat, ∃ r9 : Int, u11 = (.tuple #[(.slice ra4 rn4 rc4), (.int .i64 r9)]) ∧
  ∃ r10 : Bool, ((((!decide (r8 = 0)) || (!decide (r9 = 0))) = false) → CallQ Try.prog 20 #[(.slice ra3 rn3 rc3), (.slice ra4 rn4 rc4)] H_15 (.bool r10)) ∧
  (((((!decide (r8 = 0)) || (!decide (r9 = 0))) || (!r10))) = true →
  K (.bool false) H_15) ∧
  (((((!decide (r8 = 0)) || (!decide (r9 = 0))) || (!r10))) = false →
  Jn (IntKind.i64.wrap (left + 1)) H_15))) ∧
  (((decide (i1 < (rn2 : Int)))) = false →
  CallF Try.prog 24 #[(.pointer r2)] H_12 fun u12 H_16 => ∃ ra5 : Option Addr, ∃ rn5 : Nat, ∃ rc5 : Nat, u12 = (.slice ra5 rn5 rc5) ∧
  K (.bool (decide ((rn5 : Int) = left))) H_16)

def DiskGone.l3 (callsa : Option Addr) (callsn : Nat) (file : Int) (keep : Int) (K : Value → Heap → Prop) (r1 : Bool) (r2 : Option Addr) (Inv : Int → Heap → Prop) (mu : Int → Heap → Nat) (i : Int) (H_2 : Heap) : Prop :=
  (((decide (i < (callsn : Int)))) = true →
  ∀ (b : Nat) (H_3 : Heap), b = H_2.size → H_3 = H_2.push (.cells #[(.slice none 0 0), (.int .i64 0)] 30) →
  ((0 : Int) ≤ i ∧ i < (callsn : Int)) ∧ ∃ b1 o : Nat, (callsa = some ⟨b1, o, none⟩) ∧
  ∃ c0 : Int, ∃ c1 : Int, ∃ c2 : Int, ∃ c3a : Option Addr, ∃ c3n : Nat, ∃ c3c : Nat, cellsAre H_3 b1 (o + i.toNat * 4) [(.int .i64 c0), (.int .i64 c1), (.int .i64 c2), (.slice c3a c3n c3c)] ∧
  CallF Try.prog 16 #[(.pointer r2), (.pointer (some ⟨b, 0, none⟩)), (.agg #[(.int .i64 c0), (.int .i64 c1), (.int .i64 c2), (.slice c3a c3n c3c)])] H_3 fun u2 H_4 => ∃ r3 : Bool, u2 = (.bool r3) ∧
  Inv (IntKind.i64.wrap (i + 1)) H_4 ∧ mu (IntKind.i64.wrap (i + 1)) H_4 < mu i H_2) ∧
  (((decide (i < (callsn : Int)))) = false →
  CallF Try.prog 26 #[(.pointer r2)] H_2 fun u3 H_5 => u3 = (.tuple #[]) ∧
  CallF Try.prog 21 #[(.pointer r2)] H_5 fun u4 H_6 => ∃ r4 : Option Addr, u4 = (.pointer r4) ∧
  ((r4.isNone) = true →
  K (.bool false) H_6) ∧
  ((r4.isNone) = false →
  CallF Try.prog 18 #[(.pointer r2), (.int .i64 file)] H_6 fun u5 H_7 => ∃ ra : Option Addr, ∃ rn : Nat, ∃ rc : Nat, ∃ r5 : Int, u5 = (.tuple #[(.slice ra rn rc), (.int .i64 r5)]) ∧
  CallF Try.prog 27 #[(.pointer r2), (.int .i64 file)] H_7 fun u6 H_8 => ∃ r6 : Int, u6 = (.int .i64 r6) ∧
  CallF Try.prog 22 #[(.pointer r2), (.int .i64 keep)] H_8 fun u7 H_9 => u7 = (.tuple #[]) ∧
  CallF Try.prog 18 #[(.pointer r2), (.int .i64 file)] H_9 fun u8 H_10 => ∃ ra1 : Option Addr, ∃ rn1 : Nat, ∃ rc1 : Nat, ∃ r7 : Int, u8 = (.tuple #[(.slice ra1 rn1 rc1), (.int .i64 r7)]) ∧
  ((((!decide (r5 = r6)) || (!decide (r7 = 23)))) = true →
  K (.bool false) H_10) ∧
  ((((!decide (r5 = r6)) || (!decide (r7 = 23)))) = false →
  CallF Try.prog 24 #[(.pointer r4)] H_10 fun u9 H_11 => ∃ ra2 : Option Addr, ∃ rn2 : Nat, ∃ rc2 : Nat, u9 = (.slice ra2 rn2 rc2) ∧
  ∃ (Inv1 : Int → Int → Heap → Prop) (mu1 : Int → Int → Heap → Nat), Inv1 0 0 H_11 ∧
  ∀ (left : Int) (i1 : Int), ∀ H_12 : Heap, Inv1 left i1 H_12 → DiskGone.l2 file K r1 r2 r4 ra2 rn2 Inv1 mu1 left i1 H_12)))

def DiskGone.code (callsa : Option Addr) (callsn : Nat) (callsc : Nat) (file : Int) (keep : Int) (H : Heap) (K : Value → Heap → Prop) : Prop :=
  CallF Try.prog 13 #[] H fun u H_ => ∃ r : Bool, u = (.bool r) ∧
  (((!r)) = true →
  K (.bool false) H_) ∧
  (((!r)) = false →
  ∃ r1 : Bool, CallQ Try.prog 14 #[(.slice callsa callsn callsc)] H_ (.bool r1) ∧
  ((r1) = true →
  K (.bool true) H_) ∧
  ((r1) = false →
  CallF Try.prog 15 #[] H_ fun u1 H_1 => ∃ r2 : Option Addr, u1 = (.pointer r2) ∧
  ((r2.isNone) = true →
  K (.bool false) H_1) ∧
  ((r2.isNone) = false →
  ∃ (Inv : Int → Heap → Prop) (mu : Int → Heap → Nat), Inv 0 H_1 ∧
  ∀ (i : Int), ∀ H_2 : Heap, Inv i H_2 → DiskGone.l3 callsa callsn file keep K r1 r2 Inv mu i H_2)))

def DiskGone.ann : Ann := (.seq .reg (.seq (.seq .reg (.cond (.seq .reg .no) .no)) (.seq (.seq .reg (.cond (.seq .reg .no) .no)) (.seq .reg (.seq (.seq .reg (.cond (.seq .reg .no) .no)) (.seq (.seq .reg (.blk (.loop [(8, .one (.int .i64))] (.seq (.seq .reg (.cond .no .no)) (.seq (.blk .reg) .reg))))) (.seq .reg (.seq .reg (.seq (.seq .reg (.cond (.seq .reg .no) .no)) (.seq .reg (.seq .reg (.seq .reg (.seq .reg (.seq (.seq .reg (.cond (.seq .reg .no) .no)) (.seq .reg (.seq .reg (.seq (.seq .reg (.blk (.loop [(16, .one (.int .i64)), (17, .one (.int .i64))] (.seq (.seq .reg (.cond .no .no)) (.seq (.blkJ [(16, .one (.int .i64))] (.seq (.seq .reg (.cond .no .no)) (.seq .reg (.seq .reg (.seq (.seq .reg (.cond (.seq .reg .no) .no)) .reg))))) .reg))))) (.seq .reg .no))))))))))))))))))

theorem DiskGone.eq (callsa : Option Addr) (callsn : Nat) (callsc : Nat) (file : Int) (keep : Int) (H : Heap) (K : Value → Heap → Prop) : vcFun X Try.f6 DiskGone.ann [(.slice callsa callsn callsc), (.int .i64 file), (.int .i64 keep)] H K = DiskGone.code callsa callsn callsc file keep H K := by kernel_rfl

theorem DiskGone.call {callsa : Option Addr} {callsn : Nat} {callsc : Nat} {file : Int} {keep : Int} {H : Heap} {K : Value → Heap → Prop} (h : DiskGone.code callsa callsn callsc file keep H K) : CallF Try.prog 6 #[(.slice callsa callsn callsc), (.int .i64 file), (.int .i64 keep)] H K :=
  callF_of_eq (X := X) X_P X_wide X_bodied Try.func6 (DiskGone.eq callsa callsn callsc file keep H K) h

def DiskSync.r1 (Inv1 : Int → Heap → Prop) (mu1 : Int → Heap → Nat) (i1 : Int) (H_8 : Heap) (H_9 : Heap) : Prop :=
  Inv1 (IntKind.i64.wrap (i1 + 1)) H_9 ∧ mu1 (IntKind.i64.wrap (i1 + 1)) H_9 < mu1 i1 H_8

def DiskSync.r2 (K : Value → Heap → Prop) (t6 : Bool) (H_17 : Heap) : Prop :=
  K (.bool t6) H_17

def DiskSync.l3 (K : Value → Heap → Prop) (r2 : Bool) (r3 : Option Addr) (r5 : Option Addr) (r6 : Int) (ra : Option Addr) (rn : Nat) (Inv2 : Int → Heap → Prop) (mu2 : Int → Heap → Nat) (i2 : Int) (H_14 : Heap) : Prop :=
  (((decide (i2 < (rn : Int)))) = true →
  ((0 : Int) ≤ i2 ∧ i2 < (rn : Int)) ∧ ∃ b5 o3 : Nat, (ra = some ⟨b5, o3, none⟩) ∧
  ∃ v1 : Int, cellAt H_14 b5 (o3 + i2.toNat) = some (.int .i64 v1) ∧
  CallF Try.prog 18 #[(.pointer r5), (.int .i64 v1)] H_14 fun u9 H_15 => ∃ ra1 : Option Addr, ∃ rn1 : Nat, ∃ rc1 : Nat, ∃ r8 : Int, u9 = (.tuple #[(.slice ra1 rn1 rc1), (.int .i64 r8)]) ∧
  ((0 : Int) ≤ i2 ∧ i2 < (rn : Int)) ∧ ∃ b6 o4 : Nat, (ra = some ⟨b6, o4, none⟩) ∧
  ∃ v2 : Int, cellAt H_15 b6 (o4 + i2.toNat) = some (.int .i64 v2) ∧
  CallF Try.prog 18 #[(.pointer r3), (.int .i64 v2)] H_15 fun u10 H_16 => ∃ ra2 : Option Addr, ∃ rn2 : Nat, ∃ rc2 : Nat, ∃ r9 : Int, u10 = (.tuple #[(.slice ra2 rn2 rc2), (.int .i64 r9)]) ∧
  (((((!decide (r8 = 0)) || (!decide (r9 = 0))) || (decide ((rn2 : Int) < (rn1 : Int)))) = false) → ((0 : Int) ≤ 0 ∧ 0 ≤ (rn1 : Int) ∧ (rn1 : Int) ≤ (rc2 : Int))) ∧
  ∃ r10 : Bool, (((((!decide (r8 = 0)) || (!decide (r9 = 0))) || (decide ((rn2 : Int) < (rn1 : Int)))) = false) → CallQ Try.prog 20 #[(.slice (slB ra2 0 rc2 1) rn1 rc2), (.slice ra1 rn1 rc1)] H_16 (.bool r10)) ∧
  ((((((!decide (r8 = 0)) || (!decide (r9 = 0))) || (decide ((rn2 : Int) < (rn1 : Int)))) || (!r10))) = true →
  K (.bool false) H_16) ∧
  ((((((!decide (r8 = 0)) || (!decide (r9 = 0))) || (decide ((rn2 : Int) < (rn1 : Int)))) || (!r10))) = false →
  Inv2 (IntKind.i64.wrap (i2 + 1)) H_16 ∧ mu2 (IntKind.i64.wrap (i2 + 1)) H_16 < mu2 i2 H_14)) ∧
  (((decide (i2 < (rn : Int)))) = false →
  ∀ Jn1 : Bool → Heap → Prop, (∀ (t6 : Bool), ∀ H_17 : Heap, DiskSync.r2 K t6 H_17 → Jn1 t6 H_17) →
  CallF Try.prog 25 #[(.pointer r5)] H_14 fun u11 H_18 => ∃ r11 : Int, u11 = (.int .i64 r11) ∧
  (((decide (r11 = r6)) = true) →
  CallF Try.prog 23 #[(.pointer r5)] H_18 fun u12 H_19 => ∃ r12 : Int, u12 = (.int .i64 r12) ∧
  Jn1 (decide (r12 = 0)) H_19) ∧
  (¬ ((decide (r11 = r6)) = true) →
  Jn1 false H_18))

def DiskSync.l4 (morea : Option Addr) (moren : Nat) (keep : Int) (K : Value → Heap → Prop) (r1 : Bool) (r2 : Bool) (r3 : Option Addr) (r5 : Option Addr) (r6 : Int) (Inv1 : Int → Heap → Prop) (mu1 : Int → Heap → Nat) (i1 : Int) (H_8 : Heap) : Prop :=
  (((decide (i1 < (moren : Int)))) = true →
  ((0 : Int) ≤ i1 ∧ i1 < (moren : Int)) ∧ ∃ b2 o1 : Nat, (morea = some ⟨b2, o1, none⟩) ∧
  ∃ v : Int, cellAt H_8 b2 (o1 + i1.toNat * 4) = some (.int .i64 v) ∧
  ∀ Jn : Heap → Prop, (∀ H_9 : Heap, DiskSync.r1 Inv1 mu1 i1 H_8 H_9 → Jn H_9) →
  (((!decide (v = 2))) = true →
  ∀ (b3 : Nat) (H_10 : Heap), b3 = H_8.size → H_10 = H_8.push (.cells #[(.slice none 0 0), (.int .i64 0)] 30) →
  ((0 : Int) ≤ i1 ∧ i1 < (moren : Int)) ∧ ∃ b4 o2 : Nat, (morea = some ⟨b4, o2, none⟩) ∧
  ∃ c0_1 : Int, ∃ c1_1 : Int, ∃ c2_1 : Int, ∃ c3a1 : Option Addr, ∃ c3n1 : Nat, ∃ c3c1 : Nat, cellsAre H_10 b4 (o2 + i1.toNat * 4) [(.int .i64 c0_1), (.int .i64 c1_1), (.int .i64 c2_1), (.slice c3a1 c3n1 c3c1)] ∧
  CallF Try.prog 16 #[(.pointer r3), (.pointer (some ⟨b3, 0, none⟩)), (.agg #[(.int .i64 c0_1), (.int .i64 c1_1), (.int .i64 c2_1), (.slice c3a1 c3n1 c3c1)])] H_10 fun u6 H_11 => ∃ r7 : Bool, u6 = (.bool r7) ∧
  Jn H_11) ∧
  (((!decide (v = 2))) = false →
  Jn H_8)) ∧
  (((decide (i1 < (moren : Int)))) = false →
  CallF Try.prog 22 #[(.pointer r3), (.int .i64 keep)] H_8 fun u7 H_12 => u7 = (.tuple #[]) ∧
  CallF Try.prog 24 #[(.pointer r5)] H_12 fun u8 H_13 => ∃ ra : Option Addr, ∃ rn : Nat, ∃ rc : Nat, u8 = (.slice ra rn rc) ∧
  ∃ (Inv2 : Int → Heap → Prop) (mu2 : Int → Heap → Nat), Inv2 0 H_13 ∧
  ∀ (i2 : Int), ∀ H_14 : Heap, Inv2 i2 H_14 → DiskSync.l3 K r2 r3 r5 r6 ra rn Inv2 mu2 i2 H_14)

def DiskSync.l5 (callsa : Option Addr) (callsn : Nat) (morea : Option Addr) (moren : Nat) (keep : Int) (K : Value → Heap → Prop) (r1 : Bool) (r2 : Bool) (r3 : Option Addr) (Inv : Int → Heap → Prop) (mu : Int → Heap → Nat) (i : Int) (H_2 : Heap) : Prop :=
  (((decide (i < (callsn : Int)))) = true →
  ∀ (b : Nat) (H_3 : Heap), b = H_2.size → H_3 = H_2.push (.cells #[(.slice none 0 0), (.int .i64 0)] 30) →
  ((0 : Int) ≤ i ∧ i < (callsn : Int)) ∧ ∃ b1 o : Nat, (callsa = some ⟨b1, o, none⟩) ∧
  ∃ c0 : Int, ∃ c1 : Int, ∃ c2 : Int, ∃ c3a : Option Addr, ∃ c3n : Nat, ∃ c3c : Nat, cellsAre H_3 b1 (o + i.toNat * 4) [(.int .i64 c0), (.int .i64 c1), (.int .i64 c2), (.slice c3a c3n c3c)] ∧
  CallF Try.prog 16 #[(.pointer r3), (.pointer (some ⟨b, 0, none⟩)), (.agg #[(.int .i64 c0), (.int .i64 c1), (.int .i64 c2), (.slice c3a c3n c3c)])] H_3 fun u2 H_4 => ∃ r4 : Bool, u2 = (.bool r4) ∧
  Inv (IntKind.i64.wrap (i + 1)) H_4 ∧ mu (IntKind.i64.wrap (i + 1)) H_4 < mu i H_2) ∧
  (((decide (i < (callsn : Int)))) = false →
  CallF Try.prog 26 #[(.pointer r3)] H_2 fun u3 H_5 => u3 = (.tuple #[]) ∧
  CallF Try.prog 21 #[(.pointer r3)] H_5 fun u4 H_6 => ∃ r5 : Option Addr, u4 = (.pointer r5) ∧
  ((r5.isNone) = true →
  K (.bool false) H_6) ∧
  ((r5.isNone) = false →
  CallF Try.prog 25 #[(.pointer r3)] H_6 fun u5 H_7 => ∃ r6 : Int, u5 = (.int .i64 r6) ∧
  ∃ (Inv1 : Int → Heap → Prop) (mu1 : Int → Heap → Nat), Inv1 0 H_7 ∧
  ∀ (i1 : Int), ∀ H_8 : Heap, Inv1 i1 H_8 → DiskSync.l4 morea moren keep K r1 r2 r3 r5 r6 Inv1 mu1 i1 H_8))

def DiskSync.code (callsa : Option Addr) (callsn : Nat) (callsc : Nat) (morea : Option Addr) (moren : Nat) (morec : Nat) (keep : Int) (H : Heap) (K : Value → Heap → Prop) : Prop :=
  CallF Try.prog 13 #[] H fun u H_ => ∃ r : Bool, u = (.bool r) ∧
  (((!r)) = true →
  K (.bool false) H_) ∧
  (((!r)) = false →
  ∃ r1 : Bool, CallQ Try.prog 14 #[(.slice callsa callsn callsc)] H_ (.bool r1) ∧
  ∃ r2 : Bool, ((r1 = false) → CallQ Try.prog 14 #[(.slice morea moren morec)] H_ (.bool r2)) ∧
  (((r1 || r2)) = true →
  K (.bool true) H_) ∧
  (((r1 || r2)) = false →
  CallF Try.prog 15 #[] H_ fun u1 H_1 => ∃ r3 : Option Addr, u1 = (.pointer r3) ∧
  ((r3.isNone) = true →
  K (.bool false) H_1) ∧
  ((r3.isNone) = false →
  ∃ (Inv : Int → Heap → Prop) (mu : Int → Heap → Nat), Inv 0 H_1 ∧
  ∀ (i : Int), ∀ H_2 : Heap, Inv i H_2 → DiskSync.l5 callsa callsn morea moren keep K r1 r2 r3 Inv mu i H_2)))

def DiskSync.ann : Ann := (.seq .reg (.seq (.seq .reg (.cond (.seq .reg .no) .no)) (.seq (.seq .reg (.cond (.seq .reg .no) .no)) (.seq .reg (.seq (.seq .reg (.cond (.seq .reg .no) .no)) (.seq (.seq .reg (.blk (.loop [(8, .one (.int .i64))] (.seq (.seq .reg (.cond .no .no)) (.seq (.blk .reg) .reg))))) (.seq .reg (.seq .reg (.seq (.seq .reg (.cond (.seq .reg .no) .no)) (.seq .reg (.seq (.seq .reg (.blk (.loop [(11, .one (.int .i64))] (.seq (.seq .reg (.cond .no .no)) (.seq (.blk (.seq .reg (.condJ [] .reg .no))) .reg))))) (.seq .reg (.seq .reg (.seq (.seq .reg (.blk (.loop [(13, .one (.int .i64))] (.seq (.seq .reg (.cond .no .no)) (.seq (.blk (.seq .reg (.seq .reg (.seq .reg (.cond (.seq .reg .no) .no))))) .reg))))) (.seq (.regJ [(6, .one (.bool))]) .no)))))))))))))))

theorem DiskSync.eq (callsa : Option Addr) (callsn : Nat) (callsc : Nat) (morea : Option Addr) (moren : Nat) (morec : Nat) (keep : Int) (H : Heap) (K : Value → Heap → Prop) : vcFun X Try.f5 DiskSync.ann [(.slice callsa callsn callsc), (.slice morea moren morec), (.int .i64 keep)] H K = DiskSync.code callsa callsn callsc morea moren morec keep H K := by kernel_rfl

theorem DiskSync.call {callsa : Option Addr} {callsn : Nat} {callsc : Nat} {morea : Option Addr} {moren : Nat} {morec : Nat} {keep : Int} {H : Heap} {K : Value → Heap → Prop} (h : DiskSync.code callsa callsn callsc morea moren morec keep H K) : CallF Try.prog 5 #[(.slice callsa callsn callsc), (.slice morea moren morec), (.int .i64 keep)] H K :=
  callF_of_eq (X := X) X_P X_wide X_bodied Try.func5 (DiskSync.eq callsa callsn callsc morea moren morec keep H K) h

def DiskCrash.r1 (K : Value → Heap → Prop) (t4 : Bool) (H_15 : Heap) : Prop :=
  K (.bool t4) H_15

def DiskCrash.l2 (keep : Int) (K : Value → Heap → Prop) (r1 : Bool) (r2 : Option Addr) (r4 : Option Addr) (r5 : Option Addr) (r6 : Int) (ra : Option Addr) (rn : Nat) (Inv1 : Int → Heap → Prop) (mu1 : Int → Heap → Nat) (i1 : Int) (H_11 : Heap) : Prop :=
  (((decide (i1 < (rn : Int)))) = true →
  ((0 : Int) ≤ i1 ∧ i1 < (rn : Int)) ∧ ∃ b2 o1 : Nat, (ra = some ⟨b2, o1, none⟩) ∧
  ∃ v : Int, cellAt H_11 b2 (o1 + i1.toNat) = some (.int .i64 v) ∧
  CallF Try.prog 18 #[(.pointer r4), (.int .i64 v)] H_11 fun u9 H_12 => ∃ ra1 : Option Addr, ∃ rn1 : Nat, ∃ rc1 : Nat, ∃ r7 : Int, u9 = (.tuple #[(.slice ra1 rn1 rc1), (.int .i64 r7)]) ∧
  ((0 : Int) ≤ i1 ∧ i1 < (rn : Int)) ∧ ∃ b3 o2 : Nat, (ra = some ⟨b3, o2, none⟩) ∧
  ∃ v1 : Int, cellAt H_12 b3 (o2 + i1.toNat) = some (.int .i64 v1) ∧
  CallF Try.prog 18 #[(.pointer r2), (.int .i64 v1)] H_12 fun u10 H_13 => ∃ ra2 : Option Addr, ∃ rn2 : Nat, ∃ rc2 : Nat, ∃ r8 : Int, u10 = (.tuple #[(.slice ra2 rn2 rc2), (.int .i64 r8)]) ∧
  ((0 : Int) ≤ i1 ∧ i1 < (rn : Int)) ∧ ∃ b4 o3 : Nat, (ra = some ⟨b4, o3, none⟩) ∧
  ∃ v2 : Int, cellAt H_13 b4 (o3 + i1.toNat) = some (.int .i64 v2) ∧
  CallF Try.prog 18 #[(.pointer r5), (.int .i64 v2)] H_13 fun u11 H_14 => ∃ ra3 : Option Addr, ∃ rn3 : Nat, ∃ rc3 : Nat, ∃ r9 : Int, u11 = (.tuple #[(.slice ra3 rn3 rc3), (.int .i64 r9)]) ∧
  ((((decide ((rn1 : Int) < (rn2 : Int))) || (decide ((rn2 : Int) < (rn3 : Int)))) = false) → ((0 : Int) ≤ 0 ∧ 0 ≤ (rn2 : Int) ∧ (rn2 : Int) ≤ (rc1 : Int))) ∧
  ∃ r10 : Bool, ((((decide ((rn1 : Int) < (rn2 : Int))) || (decide ((rn2 : Int) < (rn3 : Int)))) = false) → CallQ Try.prog 20 #[(.slice (slB ra1 0 rc1 1) rn2 rc1), (.slice ra2 rn2 rc2)] H_14 (.bool r10)) ∧
  (((((decide ((rn1 : Int) < (rn2 : Int))) || (decide ((rn2 : Int) < (rn3 : Int)))) || (!r10)) = false) → ((0 : Int) ≤ 0 ∧ 0 ≤ (rn3 : Int) ∧ (rn3 : Int) ≤ (rc2 : Int))) ∧
  ∃ r11 : Bool, (((((decide ((rn1 : Int) < (rn2 : Int))) || (decide ((rn2 : Int) < (rn3 : Int)))) || (!r10)) = false) → CallQ Try.prog 20 #[(.slice (slB ra2 0 rc2 1) rn3 rc2), (.slice ra3 rn3 rc3)] H_14 (.bool r11)) ∧
  ((((((decide ((rn1 : Int) < (rn2 : Int))) || (decide ((rn2 : Int) < (rn3 : Int)))) || (!r10)) || (!r11))) = true →
  K (.bool false) H_14) ∧
  ((((((decide ((rn1 : Int) < (rn2 : Int))) || (decide ((rn2 : Int) < (rn3 : Int)))) || (!r10)) || (!r11))) = false →
  Inv1 (IntKind.i64.wrap (i1 + 1)) H_14 ∧ mu1 (IntKind.i64.wrap (i1 + 1)) H_14 < mu1 i1 H_11)) ∧
  (((decide (i1 < (rn : Int)))) = false →
  ∀ Jn : Bool → Heap → Prop, (∀ (t4 : Bool), ∀ H_15 : Heap, DiskCrash.r1 K t4 H_15 → Jn t4 H_15) →
  CallF Try.prog 23 #[(.pointer r2)] H_11 fun u12 H_16 => ∃ r12 : Int, u12 = (.int .i64 r12) ∧
  (((decide (r12 = 0)) = true) →
  CallF Try.prog 25 #[(.pointer r5)] H_16 fun u13 H_17 => ∃ r13 : Int, u13 = (.int .i64 r13) ∧
  CallF Try.prog 25 #[(.pointer r4)] H_17 fun u14 H_18 => ∃ r14 : Int, u14 = (.int .i64 r14) ∧
  (((decide (r13 = (IntKind.i64.wrap (r14 - r6)))) = true) →
  CallF Try.prog 25 #[(.pointer r2)] H_18 fun u15 H_19 => ∃ r15 : Int, u15 = (.int .i64 r15) ∧
  CallF Try.prog 25 #[(.pointer r4)] H_19 fun u16 H_20 => ∃ r16 : Int, u16 = (.int .i64 r16) ∧
  (((decide (r15 = (IntKind.i64.wrap (r16 - (IntKind.i64.wrap (r6 - (if r6 < (if 0 > keep then 0 else keep) then r6 else (if 0 > keep then 0 else keep)))))))) = true) →
  CallF Try.prog 24 #[(.pointer r2)] H_20 fun u17 H_21 => ∃ ra4 : Option Addr, ∃ rn4 : Nat, ∃ rc4 : Nat, u17 = (.slice ra4 rn4 rc4) ∧
  Jn (decide ((rn4 : Int) ≤ (rn : Int))) H_21) ∧
  (¬ ((decide (r15 = (IntKind.i64.wrap (r16 - (IntKind.i64.wrap (r6 - (if r6 < (if 0 > keep then 0 else keep) then r6 else (if 0 > keep then 0 else keep)))))))) = true) →
  Jn false H_20)) ∧
  (¬ ((decide (r13 = (IntKind.i64.wrap (r14 - r6)))) = true) →
  ((false = true) →
  CallF Try.prog 24 #[(.pointer r2)] H_18 fun u18 H_22 => ∃ ra5 : Option Addr, ∃ rn5 : Nat, ∃ rc5 : Nat, u18 = (.slice ra5 rn5 rc5) ∧
  Jn (decide ((rn5 : Int) ≤ (rn : Int))) H_22) ∧
  (¬ (false = true) →
  Jn false H_18))) ∧
  (¬ ((decide (r12 = 0)) = true) →
  ((false = true) →
  CallF Try.prog 25 #[(.pointer r2)] H_16 fun u19 H_23 => ∃ r17 : Int, u19 = (.int .i64 r17) ∧
  CallF Try.prog 25 #[(.pointer r4)] H_23 fun u20 H_24 => ∃ r18 : Int, u20 = (.int .i64 r18) ∧
  (((decide (r17 = (IntKind.i64.wrap (r18 - (IntKind.i64.wrap (r6 - (if r6 < (if 0 > keep then 0 else keep) then r6 else (if 0 > keep then 0 else keep)))))))) = true) →
  CallF Try.prog 24 #[(.pointer r2)] H_24 fun u21 H_25 => ∃ ra6 : Option Addr, ∃ rn6 : Nat, ∃ rc6 : Nat, u21 = (.slice ra6 rn6 rc6) ∧
  Jn (decide ((rn6 : Int) ≤ (rn : Int))) H_25) ∧
  (¬ ((decide (r17 = (IntKind.i64.wrap (r18 - (IntKind.i64.wrap (r6 - (if r6 < (if 0 > keep then 0 else keep) then r6 else (if 0 > keep then 0 else keep)))))))) = true) →
  Jn false H_24)) ∧
  (¬ (false = true) →
  ((false = true) →
  CallF Try.prog 24 #[(.pointer r2)] H_16 fun u22 H_26 => ∃ ra7 : Option Addr, ∃ rn7 : Nat, ∃ rc7 : Nat, u22 = (.slice ra7 rn7 rc7) ∧
  Jn (decide ((rn7 : Int) ≤ (rn : Int))) H_26) ∧
  (¬ (false = true) →
  Jn false H_16))))

def DiskCrash.l3 (callsa : Option Addr) (callsn : Nat) (keep : Int) (K : Value → Heap → Prop) (r1 : Bool) (r2 : Option Addr) (Inv : Int → Heap → Prop) (mu : Int → Heap → Nat) (i : Int) (H_2 : Heap) : Prop :=
  (((decide (i < (callsn : Int)))) = true →
  ∀ (b : Nat) (H_3 : Heap), b = H_2.size → H_3 = H_2.push (.cells #[(.slice none 0 0), (.int .i64 0)] 30) →
  ((0 : Int) ≤ i ∧ i < (callsn : Int)) ∧ ∃ b1 o : Nat, (callsa = some ⟨b1, o, none⟩) ∧
  ∃ c0 : Int, ∃ c1 : Int, ∃ c2 : Int, ∃ c3a : Option Addr, ∃ c3n : Nat, ∃ c3c : Nat, cellsAre H_3 b1 (o + i.toNat * 4) [(.int .i64 c0), (.int .i64 c1), (.int .i64 c2), (.slice c3a c3n c3c)] ∧
  CallF Try.prog 16 #[(.pointer r2), (.pointer (some ⟨b, 0, none⟩)), (.agg #[(.int .i64 c0), (.int .i64 c1), (.int .i64 c2), (.slice c3a c3n c3c)])] H_3 fun u2 H_4 => ∃ r3 : Bool, u2 = (.bool r3) ∧
  Inv (IntKind.i64.wrap (i + 1)) H_4 ∧ mu (IntKind.i64.wrap (i + 1)) H_4 < mu i H_2) ∧
  (((decide (i < (callsn : Int)))) = false →
  CallF Try.prog 21 #[(.pointer r2)] H_2 fun u3 H_5 => ∃ r4 : Option Addr, u3 = (.pointer r4) ∧
  CallF Try.prog 21 #[(.pointer r2)] H_5 fun u4 H_6 => ∃ r5 : Option Addr, u4 = (.pointer r5) ∧
  (((r4.isNone || r5.isNone)) = true →
  K (.bool false) H_6) ∧
  (((r4.isNone || r5.isNone)) = false →
  CallF Try.prog 22 #[(.pointer r5), (.int .i64 0)] H_6 fun u5 H_7 => u5 = (.tuple #[]) ∧
  CallF Try.prog 23 #[(.pointer r2)] H_7 fun u6 H_8 => ∃ r6 : Int, u6 = (.int .i64 r6) ∧
  CallF Try.prog 22 #[(.pointer r2), (.int .i64 keep)] H_8 fun u7 H_9 => u7 = (.tuple #[]) ∧
  CallF Try.prog 24 #[(.pointer r4)] H_9 fun u8 H_10 => ∃ ra : Option Addr, ∃ rn : Nat, ∃ rc : Nat, u8 = (.slice ra rn rc) ∧
  ∃ (Inv1 : Int → Heap → Prop) (mu1 : Int → Heap → Nat), Inv1 0 H_10 ∧
  ∀ (i1 : Int), ∀ H_11 : Heap, Inv1 i1 H_11 → DiskCrash.l2 keep K r1 r2 r4 r5 r6 ra rn Inv1 mu1 i1 H_11))

def DiskCrash.code (callsa : Option Addr) (callsn : Nat) (callsc : Nat) (keep : Int) (H : Heap) (K : Value → Heap → Prop) : Prop :=
  CallF Try.prog 13 #[] H fun u H_ => ∃ r : Bool, u = (.bool r) ∧
  (((!r)) = true →
  K (.bool false) H_) ∧
  (((!r)) = false →
  ∃ r1 : Bool, CallQ Try.prog 14 #[(.slice callsa callsn callsc)] H_ (.bool r1) ∧
  ((r1) = true →
  K (.bool true) H_) ∧
  ((r1) = false →
  CallF Try.prog 15 #[] H_ fun u1 H_1 => ∃ r2 : Option Addr, u1 = (.pointer r2) ∧
  ((r2.isNone) = true →
  K (.bool false) H_1) ∧
  ((r2.isNone) = false →
  ∃ (Inv : Int → Heap → Prop) (mu : Int → Heap → Nat), Inv 0 H_1 ∧
  ∀ (i : Int), ∀ H_2 : Heap, Inv i H_2 → DiskCrash.l3 callsa callsn keep K r1 r2 Inv mu i H_2)))

def DiskCrash.ann : Ann := (.seq .reg (.seq (.seq .reg (.cond (.seq .reg .no) .no)) (.seq (.seq .reg (.cond (.seq .reg .no) .no)) (.seq .reg (.seq (.seq .reg (.cond (.seq .reg .no) .no)) (.seq (.seq .reg (.blk (.loop [(6, .one (.int .i64))] (.seq (.seq .reg (.cond .no .no)) (.seq (.blk .reg) .reg))))) (.seq .reg (.seq .reg (.seq (.seq .reg (.cond (.seq .reg .no) .no)) (.seq .reg (.seq .reg (.seq .reg (.seq .reg (.seq .reg (.seq (.seq .reg (.blk (.loop [(12, .one (.int .i64))] (.seq (.seq .reg (.cond .no .no)) (.seq (.blk (.seq .reg (.seq .reg (.seq .reg (.seq .reg (.cond (.seq .reg .no) .no)))))) .reg))))) (.seq (.regJ [(4, .one (.bool))]) .no))))))))))))))))

theorem DiskCrash.eq (callsa : Option Addr) (callsn : Nat) (callsc : Nat) (keep : Int) (H : Heap) (K : Value → Heap → Prop) : vcFun X Try.f4 DiskCrash.ann [(.slice callsa callsn callsc), (.int .i64 keep)] H K = DiskCrash.code callsa callsn callsc keep H K := by kernel_rfl

theorem DiskCrash.call {callsa : Option Addr} {callsn : Nat} {callsc : Nat} {keep : Int} {H : Heap} {K : Value → Heap → Prop} (h : DiskCrash.code callsa callsn callsc keep H K) : CallF Try.prog 4 #[(.slice callsa callsn callsc), (.int .i64 keep)] H K :=
  callF_of_eq (X := X) X_P X_wide X_bodied Try.func4 (DiskCrash.eq callsa callsn callsc keep H K) h

def DiskCalls.r1 (K : Value → Heap → Prop) (Inv : Int → Heap → Prop) (mu : Int → Heap → Nat) (i : Int) (H_3 : Heap) (t42 : Bool) (H_4 : Heap) : Prop :=
  ((t42) = true →
  K (.bool false) H_4) ∧
  ((t42) = false →
  Inv (IntKind.i64.wrap (i + 1)) H_4 ∧ mu (IntKind.i64.wrap (i + 1)) H_4 < mu i H_3)

def DiskCalls.l2 (file : Int) (K : Value → Heap → Prop) (r2 : Option Addr) (ra : Option Addr) (rn : Nat) (r5 : Int) (ra1 : Option Addr) (rn1 : Nat) (rc1 : Nat) (Inv1 : Int → Heap → Prop) (mu1 : Int → Heap → Nat) (i1 : Int) (H_9 : Heap) : Prop :=
  (((decide (i1 < (rn : Int)))) = true →
  ((0 : Int) ≤ i1 ∧ i1 < (rn : Int)) ∧ ∃ b2 o1 : Nat, (ra = some ⟨b2, o1, none⟩) ∧
  ∃ v : Int, cellAt H_9 b2 (o1 + i1.toNat) = some (.int .u8 v) ∧
  ((0 : Int) ≤ i1 ∧ i1 < (rn : Int)) ∧ ∃ b3 o2 : Nat, (ra = some ⟨b3, o2, none⟩) ∧
  canSet H_9 b3 (o2 + i1.toNat) [(.int .u8 (IntKind.u8.wrap (v + 1)))] ∧
  ∀ H_10 : Heap, H_10 = setAll H_9 b3 (o2 + i1.toNat) [(.int .u8 (IntKind.u8.wrap (v + 1)))] →
  Inv1 (IntKind.i64.wrap (i1 + 1)) H_10 ∧ mu1 (IntKind.i64.wrap (i1 + 1)) H_10 < mu1 i1 H_9) ∧
  (((decide (i1 < (rn : Int)))) = false →
  CallF Try.prog 18 #[(.pointer r2), (.int .i64 file)] H_9 fun u6 H_11 => ∃ ra2 : Option Addr, ∃ rn2 : Nat, ∃ rc2 : Nat, ∃ r6 : Int, u6 = (.tuple #[(.slice ra2 rn2 rc2), (.int .i64 r6)]) ∧
  ∃ r7 : Bool, ((((decide (r5 = 0)) && (decide (r6 = 0))) = true) → CallQ Try.prog 20 #[(.slice ra2 rn2 rc2), (.slice ra1 rn1 rc1)] H_11 (.bool r7)) ∧
  K (.bool (((decide (r5 = 0)) && (decide (r6 = 0))) && r7)) H_11)

def DiskCalls.l3 (callsa : Option Addr) (callsn : Nat) (file : Int) (K : Value → Heap → Prop) (r1 : Bool) (r2 : Option Addr) (b : Nat) (Inv : Int → Heap → Prop) (mu : Int → Heap → Nat) (i : Int) (H_3 : Heap) : Prop :=
  (((decide (i < (callsn : Int)))) = true →
  ∀ Jn : Bool → Heap → Prop, (∀ (t42 : Bool), ∀ H_4 : Heap, DiskCalls.r1 K Inv mu i H_3 t42 H_4 → Jn t42 H_4) →
  ((0 : Int) ≤ i ∧ i < (callsn : Int)) ∧ ∃ b1 o : Nat, (callsa = some ⟨b1, o, none⟩) ∧
  ∃ c0 : Int, ∃ c1 : Int, ∃ c2 : Int, ∃ c3a : Option Addr, ∃ c3n : Nat, ∃ c3c : Nat, cellsAre H_3 b1 (o + i.toNat * 4) [(.int .i64 c0), (.int .i64 c1), (.int .i64 c2), (.slice c3a c3n c3c)] ∧
  CallF Try.prog 16 #[(.pointer r2), (.pointer (some ⟨b, 0, none⟩)), (.agg #[(.int .i64 c0), (.int .i64 c1), (.int .i64 c2), (.slice c3a c3n c3c)])] H_3 fun u2 H_5 => ∃ r3 : Bool, u2 = (.bool r3) ∧
  (((!r3) = false) →
  CallF Try.prog 17 #[(.pointer r2), (.pointer (some ⟨b, 0, none⟩))] H_5 fun u3 H_6 => ∃ r4 : Bool, u3 = (.bool r4) ∧
  Jn (!r4) H_6) ∧
  (¬ ((!r3) = false) →
  Jn true H_5)) ∧
  (((decide (i < (callsn : Int)))) = false →
  CallF Try.prog 18 #[(.pointer r2), (.int .i64 file)] H_3 fun u4 H_7 => ∃ ra : Option Addr, ∃ rn : Nat, ∃ rc : Nat, ∃ r5 : Int, u4 = (.tuple #[(.slice ra rn rc), (.int .i64 r5)]) ∧
  CallF Try.prog 19 #[(.pointer (some ⟨b, 0, none⟩)), (.int .i64 file)] H_7 fun u5 H_8 => ∃ ra1 : Option Addr, ∃ rn1 : Nat, ∃ rc1 : Nat, u5 = (.slice ra1 rn1 rc1) ∧
  (((decide ((rn1 : Int) = 0))) = true →
  K (.bool ((decide (r5 = 23)) && (decide ((rn : Int) = 0)))) H_8) ∧
  (((decide ((rn1 : Int) = 0))) = false →
  ∃ (Inv1 : Int → Heap → Prop) (mu1 : Int → Heap → Nat), Inv1 0 H_8 ∧
  ∀ (i1 : Int), ∀ H_9 : Heap, Inv1 i1 H_9 → DiskCalls.l2 file K r2 ra rn r5 ra1 rn1 rc1 Inv1 mu1 i1 H_9))

def DiskCalls.code (callsa : Option Addr) (callsn : Nat) (callsc : Nat) (file : Int) (H : Heap) (K : Value → Heap → Prop) : Prop :=
  CallF Try.prog 13 #[] H fun u H_ => ∃ r : Bool, u = (.bool r) ∧
  (((!r)) = true →
  K (.bool false) H_) ∧
  (((!r)) = false →
  ∃ r1 : Bool, CallQ Try.prog 14 #[(.slice callsa callsn callsc)] H_ (.bool r1) ∧
  ((r1) = true →
  K (.bool true) H_) ∧
  ((r1) = false →
  CallF Try.prog 15 #[] H_ fun u1 H_1 => ∃ r2 : Option Addr, u1 = (.pointer r2) ∧
  ∀ (b : Nat) (H_2 : Heap), b = H_1.size → H_2 = H_1.push (.cells #[(.slice none 0 0), (.int .i64 0)] 30) →
  ((r2.isNone) = true →
  K (.bool false) H_2) ∧
  ((r2.isNone) = false →
  ∃ (Inv : Int → Heap → Prop) (mu : Int → Heap → Nat), Inv 0 H_2 ∧
  ∀ (i : Int), ∀ H_3 : Heap, Inv i H_3 → DiskCalls.l3 callsa callsn file K r1 r2 b Inv mu i H_3)))

def DiskCalls.ann : Ann := (.seq .reg (.seq (.seq .reg (.cond (.seq .reg .no) .no)) (.seq (.seq .reg (.cond (.seq .reg .no) .no)) (.seq .reg (.seq .reg (.seq (.seq .reg (.cond (.seq .reg .no) .no)) (.seq (.seq .reg (.blk (.loop [(7, .one (.int .i64))] (.seq (.seq .reg (.cond .no .no)) (.seq (.blk (.seq (.regJ [(42, .one (.bool))]) (.cond (.seq .reg .no) .no))) .reg))))) (.seq .reg (.seq .reg (.seq (.seq .reg (.cond (.seq .reg .no) .no)) (.seq (.seq .reg (.blk (.loop [(11, .one (.int .i64))] (.seq (.seq .reg (.cond .no .no)) (.seq (.blk .reg) .reg))))) (.seq .reg (.seq .reg .no)))))))))))))

theorem DiskCalls.eq (callsa : Option Addr) (callsn : Nat) (callsc : Nat) (file : Int) (H : Heap) (K : Value → Heap → Prop) : vcFun X Try.f3 DiskCalls.ann [(.slice callsa callsn callsc), (.int .i64 file)] H K = DiskCalls.code callsa callsn callsc file H K := by kernel_rfl

theorem DiskCalls.call {callsa : Option Addr} {callsn : Nat} {callsc : Nat} {file : Int} {H : Heap} {K : Value → Heap → Prop} (h : DiskCalls.code callsa callsn callsc file H K) : CallF Try.prog 3 #[(.slice callsa callsn callsc), (.int .i64 file)] H K :=
  callF_of_eq (X := X) X_P X_wide X_bodied Try.func3 (DiskCalls.eq callsa callsn callsc file H K) h

end Go.Proofs.Ytomdcdfcdeaabaa
