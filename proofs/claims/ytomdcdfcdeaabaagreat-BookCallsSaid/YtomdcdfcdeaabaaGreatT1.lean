import Derived.Test.YtomdcdfcdeaabaaGreatE9
import Derived.Test.YtomdcdfcdeaabaaGreatProg
import Derived.KernelRfl
set_option maxRecDepth 100000
set_option linter.unusedVariables false
namespace Go.Proofs.YtomdcdfcdeaabaaGreat
open Go Go.Nm Go.Proofs
noncomputable def X : Ctx := { P := Tryz.prog, quiet := [5, 11, 12, 13, 18, 32, 49, 50, 59, 61, 73, 92, 95, 99], calls := [2, 3, 4, 5, 6, 7, 8, 9, 10, 11, 12, 13, 14, 15, 16, 17, 18, 19, 20, 21, 22, 23, 24, 25, 26, 27, 28, 29, 30, 31, 32, 33, 34, 35, 36, 37, 38, 39, 40, 41, 42, 43, 44, 45, 46, 47, 48, 49, 50, 51, 52, 53, 54, 55, 56, 57, 58, 59, 60, 61, 62, 63, 64, 65, 66, 67, 68, 69, 70, 71, 72, 73, 74, 75, 76, 77, 78, 79, 80, 81, 82, 83, 84, 85, 86, 87, 88, 89, 90, 91, 92, 93, 94, 95, 96, 97, 98, 99, 100, 101, 102, 103, 104, 105, 107] }
theorem X_P : X.P = Tryz.prog := rfl
theorem X_wide : X.P.follows .mixedOrders = true := by kernel_rfl
theorem X_all : X.calls.all (bodiedB X.P) = true := by kernel_rfl
theorem X_bodied : ∀ f, memN f X.calls = true → Bodied X.P f := bodied_all X_all

def slices_Backward_piece_1.l1 (yieldl : Nat) (c0b : Nat) (c0o : Nat) (K : Value → Heap → Prop) (Inv : Int → Heap → Prop) (mu : Int → Heap → Nat) (i : Int) (H_ : Heap) : Prop :=
  (((decide (0 ≤ i))) = true →
  ∃ va1 : Option Addr, ∃ vn1 : Nat, ∃ vc1 : Nat, cellAt H_ c0b c0o = some (.slice va1 vn1 vc1) ∧
  ((0 : Int) ≤ i ∧ i < (vn1 : Int)) ∧ ∃ b o : Nat, (va1 = some ⟨b, o, none⟩) ∧
  ∃ c0 : Int, ∃ c1 : Int, cellsAre H_ b (o + i.toNat * 2) [(.int .i64 c0), (.int .i64 c1)] ∧
  YieldF Tryz.prog yieldl [(.int .i64 i), (.agg #[(.int .i64 c0), (.int .i64 c1)])] H_ fun u H_1 => ∃ r : Bool, u = (.bool r) ∧
  (((!r)) = true →
  K (.tuple #[]) H_1) ∧
  (((!r)) = false →
  Inv (IntKind.i64.wrap (i - 1)) H_1 ∧ mu (IntKind.i64.wrap (i - 1)) H_1 < mu i H_)) ∧
  (((decide (0 ≤ i))) = false →
  K (.tuple #[]) H_)

def slices_Backward_piece_1.code (yieldl : Nat) (c0b : Nat) (c0o : Nat) (H : Heap) (K : Value → Heap → Prop) : Prop :=
  ∃ va : Option Addr, ∃ vn : Nat, ∃ vc : Nat, cellAt H c0b c0o = some (.slice va vn vc) ∧
  ∃ (Inv : Int → Heap → Prop) (mu : Int → Heap → Nat), Inv (IntKind.i64.wrap ((vn : Int) - 1)) H ∧
  ∀ (i : Int), ∀ H_ : Heap, Inv i H_ → slices_Backward_piece_1.l1 yieldl c0b c0o K Inv mu i H_

def slices_Backward_piece_1.ann : Ann := (.seq .reg (.blk (.loop [(3, .one (.int .i64))] (.seq (.seq .reg (.cond .no .no)) (.seq (.blk (.seq .reg (.cond .no .no))) .reg)))))

theorem slices_Backward_piece_1.eq (yieldl : Nat) (c0b : Nat) (c0o : Nat) (H : Heap) (K : Value → Heap → Prop) : vcFun X Tryz.f67 slices_Backward_piece_1.ann [(.func (.yield yieldl) #[] #[]), (.pointer (some ⟨c0b, c0o, none⟩))] H K = slices_Backward_piece_1.code yieldl c0b c0o H K := by kernel_rfl

theorem slices_Backward_piece_1.call {yieldl : Nat} {c0b : Nat} {c0o : Nat} {H : Heap} {K : Value → Heap → Prop} (h : slices_Backward_piece_1.code yieldl c0b c0o H K) : CallF Tryz.prog 67 #[(.func (.yield yieldl) #[] #[]), (.pointer (some ⟨c0b, c0o, none⟩))] H K :=
  callF_of_eq (X := X) X_P X_wide X_bodied Tryz.func67 (slices_Backward_piece_1.eq yieldl c0b c0o H K) h

def disk_note.code (db : Nat) (do_ : Nat) (file : Int) (size : Int) (H : Heap) (K : Value → Heap → Prop) : Prop :=
  ∃ va : Option Addr, ∃ vn : Nat, ∃ vc : Nat, cellAt H db (do_ + 1) = some (.slice va vn vc) ∧
  (((decide (0 < (vn : Int))) = true) → True) ∧
  ∃ va1 : Option Addr, ∃ vn1 : Nat, ∃ vc1 : Nat, (((decide (0 < (vn : Int))) = true) → cellAt H db (do_ + 1) = some (.slice va1 vn1 vc1)) ∧
  (((decide (0 < (vn : Int))) = true) → ((0 : Int) ≤ (IntKind.i64.wrap ((vn : Int) - 1)) ∧ (IntKind.i64.wrap ((vn : Int) - 1)) < (vn1 : Int))) ∧ ∃ b o : Nat, (((decide (0 < (vn : Int))) = true) → (va1 = some ⟨b, o, none⟩)) ∧
  ∃ v : Int, (((decide (0 < (vn : Int))) = true) → cellAt H b (o + (IntKind.i64.wrap ((vn : Int) - 1)).toNat * 2) = some (.int .i64 v)) ∧
  ((((decide (0 < (vn : Int))) && (decide (v = file)))) = true →
  ∃ va2 : Option Addr, ∃ vn2 : Nat, ∃ vc2 : Nat, cellAt H db (do_ + 1) = some (.slice va2 vn2 vc2) ∧
  ((0 : Int) ≤ (IntKind.i64.wrap ((vn : Int) - 1)) ∧ (IntKind.i64.wrap ((vn : Int) - 1)) < (vn2 : Int)) ∧ ∃ b1 o1 : Nat, (va2 = some ⟨b1, o1, none⟩) ∧
  ∃ v1 : Int, cellAt H b1 (o1 + (IntKind.i64.wrap ((vn : Int) - 1)).toNat * 2 + 1) = some (.int .i64 v1) ∧
  ((0 : Int) ≤ (IntKind.i64.wrap ((vn : Int) - 1)) ∧ (IntKind.i64.wrap ((vn : Int) - 1)) < (vn2 : Int)) ∧ ∃ b2 o2 : Nat, (va2 = some ⟨b2, o2, none⟩) ∧
  canSet H b2 (o2 + (IntKind.i64.wrap ((vn : Int) - 1)).toNat * 2 + 1) [(.int .i64 (IntKind.i64.wrap (v1 + size)))] ∧
  ∀ H_ : Heap, H_ = setAll H b2 (o2 + (IntKind.i64.wrap ((vn : Int) - 1)).toNat * 2 + 1) [(.int .i64 (IntKind.i64.wrap (v1 + size)))] →
  K (.tuple #[]) H_) ∧
  ((((decide (0 < (vn : Int))) && (decide (v = file)))) = false →
  ∃ va3 : Option Addr, ∃ vn3 : Nat, ∃ vc3 : Nat, cellAt H db (do_ + 1) = some (.slice va3 vn3 vc3) ∧
  ∀ (b3 : Nat) (H_1 : Heap), b3 = H.size → H_1 = H.push (.cells #[(.int .i64 file), (.int .i64 size)] 101) →
  RunW Tryz.prog (Builtin.append_ #[66, 66] 66 #[(.slice va3 vn3 vc3), (.slice (some ⟨b3, 0, none⟩) 1 1)]) H_1 fun u H_2 =>
  ∃ sa : Option Addr, ∃ sn : Nat, ∃ sc : Nat, u = (.slice sa sn sc) ∧
  canSet H_2 db (do_ + 1) [(.slice sa sn sc)] ∧
  ∀ H_3 : Heap, H_3 = setAll H_2 db (do_ + 1) [(.slice sa sn sc)] →
  K (.tuple #[]) H_3)

def disk_note.ann : Ann := (.seq (.seq .reg (.seq .reg (.cond (.seq .reg .no) .no))) .reg)

theorem disk_note.eq (db : Nat) (do_ : Nat) (file : Int) (size : Int) (H : Heap) (K : Value → Heap → Prop) : vcFun X Tryz.f72 disk_note.ann [(.pointer (some ⟨db, do_, none⟩)), (.int .i64 file), (.int .i64 size)] H K = disk_note.code db do_ file size H K := by kernel_rfl

theorem disk_note.call {db : Nat} {do_ : Nat} {file : Int} {size : Int} {H : Heap} {K : Value → Heap → Prop} (h : disk_note.code db do_ file size H K) : CallF Tryz.prog 72 #[(.pointer (some ⟨db, do_, none⟩)), (.int .i64 file), (.int .i64 size)] H K :=
  callF_of_eq (X := X) X_P X_wide X_bodied Tryz.func72 (disk_note.eq db do_ file size H K) h

def disk_cut.code (db : Nat) (do_ : Nat) (file : Int) (size : Int) (H : Heap) (K : Value → Heap → Prop) : Prop :=
  ∃ v : Option Nat, cellAt H db do_ = some (.map v) ∧
  ∃ ma : Option Addr, ∃ mn : Nat, ∃ mc : Nat, ReadRun Tryz.prog (Instr.lookup 65 (.map v) (.int .i64 file) false) H (.slice ma mn mc) ∧
  (((decide (size = (mn : Int)))) = true →
  ∃ v1 : Option Nat, cellAt H db do_ = some (.map v1) ∧
  RunW Tryz.prog (Builtin.delete_ #[65, 3] 0 #[(.map v1), (.int .i64 file)]) H fun u H_ =>
  K (.tuple #[]) H_) ∧
  (((decide (size = (mn : Int)))) = false →
  ∃ v2 : Option Nat, cellAt H db do_ = some (.map v2) ∧
  ((0 : Int) ≤ 0 ∧ (0 : Int) ≤ (IntKind.i64.wrap ((mn : Int) - size)) ∧ (IntKind.i64.wrap ((mn : Int) - size)) ≤ (mc : Int)) ∧
  RunW Tryz.prog (Instr.mapUpdate 65 (.map v2) (.int .i64 file) (.slice (slB ma 0 mc 1) ((IntKind.i64.wrap ((mn : Int) - size)).toNat) mc)) H fun u1 H_1 =>
  K (.tuple #[]) H_1)

def disk_cut.ann : Ann := (.seq .reg (.seq (.seq .reg (.cond (.seq .reg .no) .no)) .reg))

theorem disk_cut.eq (db : Nat) (do_ : Nat) (file : Int) (size : Int) (H : Heap) (K : Value → Heap → Prop) : vcFun X Tryz.f48 disk_cut.ann [(.pointer (some ⟨db, do_, none⟩)), (.int .i64 file), (.int .i64 size)] H K = disk_cut.code db do_ file size H K := by kernel_rfl

theorem disk_cut.call {db : Nat} {do_ : Nat} {file : Int} {size : Int} {H : Heap} {K : Value → Heap → Prop} (h : disk_cut.code db do_ file size H K) : CallF Tryz.prog 48 #[(.pointer (some ⟨db, do_, none⟩)), (.int .i64 file), (.int .i64 size)] H K :=
  callF_of_eq (X := X) X_P X_wide X_bodied Tryz.func48 (disk_cut.eq db do_ file size H K) h

def slices_Backward_piece.code (sa : Option Addr) (sn : Nat) (sc : Nat) (H : Heap) (K : Value → Heap → Prop) : Prop :=
  ∀ (b : Nat) (H_ : Heap), b = H.size → H_ = H.push (.cells #[(.slice sa sn sc)] 66) →
  K (.func (.func 67) #[] #[(.pointer (some ⟨b, 0, none⟩))]) H_

def slices_Backward_piece.ann : Ann := (.seq .reg (.seq .reg .no))

theorem slices_Backward_piece.eq (sa : Option Addr) (sn : Nat) (sc : Nat) (H : Heap) (K : Value → Heap → Prop) : vcFun X Tryz.f47 slices_Backward_piece.ann [(.slice sa sn sc)] H K = slices_Backward_piece.code sa sn sc H K := by kernel_rfl

theorem slices_Backward_piece.call {sa : Option Addr} {sn : Nat} {sc : Nat} {H : Heap} {K : Value → Heap → Prop} (h : slices_Backward_piece.code sa sn sc H K) : CallF Tryz.prog 47 #[(.slice sa sn sc)] H K :=
  callF_of_eq (X := X) X_P X_wide X_bodied Tryz.func47 (slices_Backward_piece.eq sa sn sc H K) h

def bytes_Clone.code (ba : Option Addr) (bn : Nat) (bc : Nat) (H : Heap) (K : Value → Heap → Prop) : Prop :=
  ((ba.isNone) = true →
  K (.slice none 0 0) H) ∧
  ((ba.isNone) = false →
  ∀ (b : Nat) (H_ : Heap), b = H.size → H_ = H.push (.cells #[] 5) →
  RunW Tryz.prog (Builtin.append_ #[32, 32] 32 #[(.slice (some ⟨b, 0, none⟩) 0 0), (.slice ba bn bc)]) H_ fun u H_1 =>
  ∃ sa : Option Addr, ∃ sn : Nat, ∃ sc : Nat, u = (.slice sa sn sc) ∧
  K (.slice sa sn sc) H_1)

def bytes_Clone.ann : Ann := (.seq .reg (.seq (.seq .reg (.cond (.seq .reg .no) .no)) (.seq .reg .no)))

theorem bytes_Clone.eq (ba : Option Addr) (bn : Nat) (bc : Nat) (H : Heap) (K : Value → Heap → Prop) : vcFun X Tryz.f53 bytes_Clone.ann [(.slice ba bn bc)] H K = bytes_Clone.code ba bn bc H K := by kernel_rfl

theorem bytes_Clone.call {ba : Option Addr} {bn : Nat} {bc : Nat} {H : Heap} {K : Value → Heap → Prop} (h : bytes_Clone.code ba bn bc H K) : CallF Tryz.prog 53 #[(.slice ba bn bc)] H K :=
  callF_of_eq (X := X) X_P X_wide X_bodied Tryz.func53 (bytes_Clone.eq ba bn bc H K) h

def R10_Disk_Files.r1 (Inv : (Option Addr) → Nat → Nat → Int → Heap → Prop) (mu : (Option Addr) → Nat → Nat → Int → Heap → Nat) (outa : Option Addr) (outn : Nat) (outc : Nat) (i : Int) (H_1 : Heap) (outa1 : Option Addr) (outn1 : Nat) (outc1 : Nat) (H_2 : Heap) : Prop :=
  Inv outa1 outn1 outc1 (IntKind.i64.wrap (i + 1)) H_2 ∧ mu outa1 outn1 outc1 (IntKind.i64.wrap (i + 1)) H_2 < mu outa outn outc i H_1

def R10_Disk_Files.l2 (Jn : (Option Addr) → Nat → Nat → Heap → Prop) (sa : Option Addr) (sn : Nat) (sc : Nat) (Inv2 : Int → Heap → Prop) (mu2 : Int → Heap → Nat) (k1 : Int) (H_6 : Heap) : Prop :=
  (((decide (0 < k1)) = true) → ((0 : Int) ≤ (IntKind.i64.wrap (k1 - 1)) ∧ (IntKind.i64.wrap (k1 - 1)) < (sn : Int))) ∧ ∃ b4 o2 : Nat, (((decide (0 < k1)) = true) → (sa = some ⟨b4, o2, none⟩)) ∧
  ∃ v2 : Int, (((decide (0 < k1)) = true) → cellAt H_6 b4 (o2 + (IntKind.i64.wrap (k1 - 1)).toNat) = some (.int .i64 v2)) ∧
  (((decide (0 < k1)) = true) → ((0 : Int) ≤ k1 ∧ k1 < (sn : Int))) ∧ ∃ b5 o3 : Nat, (((decide (0 < k1)) = true) → (sa = some ⟨b5, o3, none⟩)) ∧
  ∃ v3 : Int, (((decide (0 < k1)) = true) → cellAt H_6 b5 (o3 + k1.toNat) = some (.int .i64 v3)) ∧
  ((((decide (0 < k1)) && (decide (v3 < v2)))) = true →
  ((0 : Int) ≤ k1 ∧ k1 < (sn : Int)) ∧ ∃ b6 o4 : Nat, (sa = some ⟨b6, o4, none⟩) ∧
  ∃ v4 : Int, cellAt H_6 b6 (o4 + k1.toNat) = some (.int .i64 v4) ∧
  ((0 : Int) ≤ (IntKind.i64.wrap (k1 - 1)) ∧ (IntKind.i64.wrap (k1 - 1)) < (sn : Int)) ∧ ∃ b7 o5 : Nat, (sa = some ⟨b7, o5, none⟩) ∧
  ∃ v5 : Int, cellAt H_6 b7 (o5 + (IntKind.i64.wrap (k1 - 1)).toNat) = some (.int .i64 v5) ∧
  ((0 : Int) ≤ (IntKind.i64.wrap (k1 - 1)) ∧ (IntKind.i64.wrap (k1 - 1)) < (sn : Int)) ∧ ∃ b8 o6 : Nat, (sa = some ⟨b8, o6, none⟩) ∧
  canSet H_6 b8 (o6 + (IntKind.i64.wrap (k1 - 1)).toNat) [(.int .i64 v4)] ∧
  ∀ H_7 : Heap, H_7 = setAll H_6 b8 (o6 + (IntKind.i64.wrap (k1 - 1)).toNat) [(.int .i64 v4)] →
  ((0 : Int) ≤ k1 ∧ k1 < (sn : Int)) ∧ ∃ b9 o7 : Nat, (sa = some ⟨b9, o7, none⟩) ∧
  canSet H_7 b9 (o7 + k1.toNat) [(.int .i64 v5)] ∧
  ∀ H_8 : Heap, H_8 = setAll H_7 b9 (o7 + k1.toNat) [(.int .i64 v5)] →
  Inv2 (IntKind.i64.wrap (k1 - 1)) H_8 ∧ mu2 (IntKind.i64.wrap (k1 - 1)) H_8 < mu2 k1 H_6) ∧
  ((((decide (0 < k1)) && (decide (v3 < v2)))) = false →
  Jn sa sn sc H_6)

def R10_Disk_Files.l3 (outa : Option Addr) (outn : Nat) (outc : Nat) (Jn : (Option Addr) → Nat → Nat → Heap → Prop) (v : Int) (Inv1 : Bool → Int → Heap → Prop) (mu1 : Bool → Int → Heap → Nat) (there : Bool) (k : Int) (H_3 : Heap) : Prop :=
  (((decide (k < (outn : Int)))) = true →
  ((there = false) → ((0 : Int) ≤ k ∧ k < (outn : Int))) ∧ ∃ b2 o1 : Nat, ((there = false) → (outa = some ⟨b2, o1, none⟩)) ∧
  ∃ v1 : Int, ((there = false) → cellAt H_3 b2 (o1 + k.toNat) = some (.int .i64 v1)) ∧
  Inv1 (there || (decide (v1 = v))) (IntKind.i64.wrap (k + 1)) H_3 ∧ mu1 (there || (decide (v1 = v))) (IntKind.i64.wrap (k + 1)) H_3 < mu1 there k H_3) ∧
  (((decide (k < (outn : Int)))) = false →
  ((there) = true →
  Jn outa outn outc H_3) ∧
  ((there) = false →
  ∀ (b3 : Nat) (H_4 : Heap), b3 = H_3.size → H_4 = H_3.push (.cells #[(.int .i64 v)] 3) →
  RunW Tryz.prog (Builtin.append_ #[82, 82] 82 #[(.slice outa outn outc), (.slice (some ⟨b3, 0, none⟩) 1 1)]) H_4 fun u H_5 =>
  ∃ sa : Option Addr, ∃ sn : Nat, ∃ sc : Nat, u = (.slice sa sn sc) ∧
  ∃ (Inv2 : Int → Heap → Prop) (mu2 : Int → Heap → Nat), Inv2 (outn : Int) H_5 ∧
  ∀ (k1 : Int), ∀ H_6 : Heap, Inv2 k1 H_6 → R10_Disk_Files.l2 Jn sa sn sc Inv2 mu2 k1 H_6))

def R10_Disk_Files.l4 (db : Nat) (do_ : Nat) (K : Value → Heap → Prop) (Inv : (Option Addr) → Nat → Nat → Int → Heap → Prop) (mu : (Option Addr) → Nat → Nat → Int → Heap → Nat) (outa : Option Addr) (outn : Nat) (outc : Nat) (i : Int) (H_1 : Heap) : Prop :=
  ∃ va : Option Addr, ∃ vn : Nat, ∃ vc : Nat, cellAt H_1 db do_ = some (.slice va vn vc) ∧
  (((decide (i < (vn : Int)))) = true →
  ∀ Jn : (Option Addr) → Nat → Nat → Heap → Prop, (∀ (outa1 : Option Addr) (outn1 : Nat) (outc1 : Nat), ∀ H_2 : Heap, R10_Disk_Files.r1 Inv mu outa outn outc i H_1 outa1 outn1 outc1 H_2 → Jn outa1 outn1 outc1 H_2) →
  ∃ va1 : Option Addr, ∃ vn1 : Nat, ∃ vc1 : Nat, cellAt H_1 db do_ = some (.slice va1 vn1 vc1) ∧
  ((0 : Int) ≤ i ∧ i < (vn1 : Int)) ∧ ∃ b1 o : Nat, (va1 = some ⟨b1, o, none⟩) ∧
  ∃ v : Int, cellAt H_1 b1 (o + i.toNat * 2) = some (.int .i64 v) ∧
  ∃ (Inv1 : Bool → Int → Heap → Prop) (mu1 : Bool → Int → Heap → Nat), Inv1 false 0 H_1 ∧
  ∀ (there : Bool) (k : Int), ∀ H_3 : Heap, Inv1 there k H_3 → R10_Disk_Files.l3 outa outn outc Jn v Inv1 mu1 there k H_3) ∧
  (((decide (i < (vn : Int)))) = false →
  K (.slice outa outn outc) H_1)

def R10_Disk_Files.code (db : Nat) (do_ : Nat) (H : Heap) (K : Value → Heap → Prop) : Prop :=
  ∀ (b : Nat) (H_ : Heap), b = H.size → H_ = H.push (.cells #[] 3) →
  ∃ (Inv : (Option Addr) → Nat → Nat → Int → Heap → Prop) (mu : (Option Addr) → Nat → Nat → Int → Heap → Nat), Inv (some ⟨b, 0, none⟩) 0 0 0 H_ ∧
  ∀ (outa : Option Addr) (outn : Nat) (outc : Nat) (i : Int), ∀ H_1 : Heap, Inv outa outn outc i H_1 → R10_Disk_Files.l4 db do_ K Inv mu outa outn outc i H_1

def R10_Disk_Files.ann : Ann := (.seq .reg (.seq .reg (.seq (.seq .reg (.blk (.loop [(3, .one (.slice)), (4, .one (.int .i64))] (.seq (.seq .reg (.cond .no .no)) (.seq (.blkJ [(3, .one (.slice))] (.seq .reg (.seq .reg (.seq (.seq .reg (.blk (.loop [(6, .one (.bool)), (7, .one (.int .i64))] (.seq (.seq .reg (.cond .no .no)) (.seq (.blk .reg) .reg))))) (.seq (.seq .reg (.cond .no .no)) (.seq .reg (.seq .reg (.blk (.loop [(8, .one (.int .i64))] (.seq (.seq .reg (.cond .no .no)) (.blk (.seq .reg .reg)))))))))))) .reg))))) (.seq .reg .no))))

theorem R10_Disk_Files.eq (db : Nat) (do_ : Nat) (H : Heap) (K : Value → Heap → Prop) : vcFun X Tryz.f31 R10_Disk_Files.ann [(.pointer (some ⟨db, do_, none⟩))] H K = R10_Disk_Files.code db do_ H K := by kernel_rfl

theorem R10_Disk_Files.call {db : Nat} {do_ : Nat} {H : Heap} {K : Value → Heap → Prop} (h : R10_Disk_Files.code db do_ H K) : CallF Tryz.prog 31 #[(.pointer (some ⟨db, do_, none⟩))] H K :=
  callF_of_eq (X := X) X_P X_wide X_bodied Tryz.func31 (R10_Disk_Files.eq db do_ H K) h

def R10_Disk_Crash.code (db : Nat) (do_ : Nat) (keep : Int) (H : Heap) (K : Value → Heap → Prop) : Prop :=
  ∃ va : Option Addr, ∃ vn : Nat, ∃ vc : Nat, cellAt H db do_ = some (.slice va vn vc) ∧
  ∃ v : Int, cellAt H db (do_ + 1) = some (.int .i64 v) ∧
  ∃ va1 : Option Addr, ∃ vn1 : Nat, ∃ vc1 : Nat, cellAt H db do_ = some (.slice va1 vn1 vc1) ∧
  ∃ v1 : Int, cellAt H db (do_ + 1) = some (.int .i64 v1) ∧
  ((0 : Int) ≤ 0 ∧ (0 : Int) ≤ (IntKind.i64.wrap (v1 + (if (IntKind.i64.wrap ((vn : Int) - v)) < (if 0 > keep then 0 else keep) then (IntKind.i64.wrap ((vn : Int) - v)) else (if 0 > keep then 0 else keep)))) ∧ (IntKind.i64.wrap (v1 + (if (IntKind.i64.wrap ((vn : Int) - v)) < (if 0 > keep then 0 else keep) then (IntKind.i64.wrap ((vn : Int) - v)) else (if 0 > keep then 0 else keep)))) ≤ (vc1 : Int)) ∧
  ∀ (b : Nat) (H_ : Heap), b = H.size → H_ = H.push (.cells #[] 108) →
  cellAt H_ db (do_ + 1) = some (.int .i64 v1) ∧
  cellAt H_ db do_ = some (.slice va1 vn1 vc1) ∧
  RunW Tryz.prog (Builtin.append_ #[28, 28] 28 #[(.slice (some ⟨b, 0, none⟩) 0 0), (.slice (slB va1 0 vc1 2) ((IntKind.i64.wrap (v1 + (if (IntKind.i64.wrap ((vn : Int) - v)) < (if 0 > keep then 0 else keep) then (IntKind.i64.wrap ((vn : Int) - v)) else (if 0 > keep then 0 else keep)))).toNat) vc1)]) H_ fun u H_1 =>
  ∃ sa : Option Addr, ∃ sn : Nat, ∃ sc : Nat, u = (.slice sa sn sc) ∧
  canSet H_1 db do_ [(.slice sa sn sc)] ∧
  ∀ H_2 : Heap, H_2 = setAll H_1 db do_ [(.slice sa sn sc)] →
  ∃ va2 : Option Addr, ∃ vn2 : Nat, ∃ vc2 : Nat, cellAt H_2 db do_ = some (.slice va2 vn2 vc2) ∧
  canSet H_2 db (do_ + 1) [(.int .i64 (vn2 : Int))] ∧
  ∀ H_3 : Heap, H_3 = setAll H_2 db (do_ + 1) [(.int .i64 (vn2 : Int))] →
  K (.tuple #[]) H_3

def R10_Disk_Crash.ann : Ann := (.seq .reg (.seq .reg .reg))

theorem R10_Disk_Crash.eq (db : Nat) (do_ : Nat) (keep : Int) (H : Heap) (K : Value → Heap → Prop) : vcFun X Tryz.f29 R10_Disk_Crash.ann [(.pointer (some ⟨db, do_, none⟩)), (.int .i64 keep)] H K = R10_Disk_Crash.code db do_ keep H K := by kernel_rfl

theorem R10_Disk_Crash.call {db : Nat} {do_ : Nat} {keep : Int} {H : Heap} {K : Value → Heap → Prop} (h : R10_Disk_Crash.code db do_ keep H K) : CallF Tryz.prog 29 #[(.pointer (some ⟨db, do_, none⟩)), (.int .i64 keep)] H K :=
  callF_of_eq (X := X) X_P X_wide X_bodied Tryz.func29 (R10_Disk_Crash.eq db do_ keep H K) h

def R10_Disk_Delete.r1 (Inv : (Option Addr) → Nat → Nat → Int → Heap → Prop) (mu : (Option Addr) → Nat → Nat → Int → Heap → Nat) (lefta : Option Addr) (leftn : Nat) (leftc : Nat) (i : Int) (H_2 : Heap) (lefta1 : Option Addr) (leftn1 : Nat) (leftc1 : Nat) (H_3 : Heap) : Prop :=
  Inv lefta1 leftn1 leftc1 (IntKind.i64.wrap (i + 1)) H_3 ∧ mu lefta1 leftn1 leftc1 (IntKind.i64.wrap (i + 1)) H_3 < mu lefta leftn leftc i H_2

def R10_Disk_Delete.l2 (db : Nat) (do_ : Nat) (file : Int) (K : Value → Heap → Prop) (Inv : (Option Addr) → Nat → Nat → Int → Heap → Prop) (mu : (Option Addr) → Nat → Nat → Int → Heap → Nat) (lefta : Option Addr) (leftn : Nat) (leftc : Nat) (i : Int) (H_2 : Heap) : Prop :=
  ∃ va1 : Option Addr, ∃ vn1 : Nat, ∃ vc1 : Nat, cellAt H_2 db do_ = some (.slice va1 vn1 vc1) ∧
  (((decide (i < (vn1 : Int)))) = true →
  ∃ va2 : Option Addr, ∃ vn2 : Nat, ∃ vc2 : Nat, cellAt H_2 db do_ = some (.slice va2 vn2 vc2) ∧
  ((0 : Int) ≤ i ∧ i < (vn2 : Int)) ∧ ∃ b1 o : Nat, (va2 = some ⟨b1, o, none⟩) ∧
  ∃ v1 : Int, cellAt H_2 b1 (o + i.toNat * 2) = some (.int .i64 v1) ∧
  ∀ Jn : (Option Addr) → Nat → Nat → Heap → Prop, (∀ (lefta1 : Option Addr) (leftn1 : Nat) (leftc1 : Nat), ∀ H_3 : Heap, R10_Disk_Delete.r1 Inv mu lefta leftn leftc i H_2 lefta1 leftn1 leftc1 H_3 → Jn lefta1 leftn1 leftc1 H_3) →
  (((!decide (v1 = file))) = true →
  ∃ va3 : Option Addr, ∃ vn3 : Nat, ∃ vc3 : Nat, cellAt H_2 db do_ = some (.slice va3 vn3 vc3) ∧
  ((0 : Int) ≤ i ∧ i < (vn3 : Int)) ∧ ∃ b2 o1 : Nat, (va3 = some ⟨b2, o1, none⟩) ∧
  ∃ c0 : Int, ∃ c1 : Int, cellsAre H_2 b2 (o1 + i.toNat * 2) [(.int .i64 c0), (.int .u8 c1)] ∧
  ∀ (b3 : Nat) (H_4 : Heap), b3 = H_2.size → H_4 = H_2.push (.cells #[(.int .i64 c0), (.int .u8 c1)] 108) →
  RunW Tryz.prog (Builtin.append_ #[28, 28] 28 #[(.slice lefta leftn leftc), (.slice (some ⟨b3, 0, none⟩) 1 1)]) H_4 fun u1 H_5 =>
  ∃ sa : Option Addr, ∃ sn : Nat, ∃ sc : Nat, u1 = (.slice sa sn sc) ∧
  Jn sa sn sc H_5) ∧
  (((!decide (v1 = file))) = false →
  Jn lefta leftn leftc H_2)) ∧
  (((decide (i < (vn1 : Int)))) = false →
  canSet H_2 db do_ [(.slice lefta leftn leftc)] ∧
  ∀ H_6 : Heap, H_6 = setAll H_2 db do_ [(.slice lefta leftn leftc)] →
  canSet H_6 db (do_ + 1) [(.int .i64 (leftn : Int))] ∧
  ∀ H_7 : Heap, H_7 = setAll H_6 db (do_ + 1) [(.int .i64 (leftn : Int))] →
  K (.int .i64 0) H_7)

def R10_Disk_Delete.code (db : Nat) (do_ : Nat) (file : Int) (H : Heap) (K : Value → Heap → Prop) : Prop :=
  CallF Tryz.prog 37 #[(.pointer (some ⟨db, do_, none⟩)), (.int .i64 file)] H fun u H_ => ∃ ra : Option Addr, ∃ rn : Nat, ∃ rc : Nat, u = (.slice ra rn rc) ∧
  (((decide ((rn : Int) = 0))) = true →
  K (.int .i64 23) H_) ∧
  (((decide ((rn : Int) = 0))) = false →
  ∃ v : Int, cellAt H_ db (do_ + 1) = some (.int .i64 v) ∧
  ∃ va : Option Addr, ∃ vn : Nat, ∃ vc : Nat, cellAt H_ db do_ = some (.slice va vn vc) ∧
  (((decide (v < (vn : Int)))) = true →
  K (.int .i64 21) H_) ∧
  (((decide (v < (vn : Int)))) = false →
  ∀ (b : Nat) (H_1 : Heap), b = H_.size → H_1 = H_.push (.cells #[] 108) →
  ∃ (Inv : (Option Addr) → Nat → Nat → Int → Heap → Prop) (mu : (Option Addr) → Nat → Nat → Int → Heap → Nat), Inv (some ⟨b, 0, none⟩) 0 0 0 H_1 ∧
  ∀ (lefta : Option Addr) (leftn : Nat) (leftc : Nat) (i : Int), ∀ H_2 : Heap, Inv lefta leftn leftc i H_2 → R10_Disk_Delete.l2 db do_ file K Inv mu lefta leftn leftc i H_2))

def R10_Disk_Delete.ann : Ann := (.seq .reg (.seq (.seq .reg (.cond (.seq .reg .no) .no)) (.seq (.seq .reg (.cond (.seq .reg .no) .no)) (.seq .reg (.seq (.seq .reg (.blk (.loop [(5, .one (.slice)), (6, .one (.int .i64))] (.seq (.seq .reg (.cond .no .no)) (.seq (.blk (.seq .reg (.condJ [(5, .one (.slice))] .reg .no))) .reg))))) (.seq .reg (.seq .reg (.seq .reg .no))))))))

theorem R10_Disk_Delete.eq (db : Nat) (do_ : Nat) (file : Int) (H : Heap) (K : Value → Heap → Prop) : vcFun X Tryz.f66 R10_Disk_Delete.ann [(.pointer (some ⟨db, do_, none⟩)), (.int .i64 file)] H K = R10_Disk_Delete.code db do_ file H K := by kernel_rfl

theorem R10_Disk_Delete.call {db : Nat} {do_ : Nat} {file : Int} {H : Heap} {K : Value → Heap → Prop} (h : R10_Disk_Delete.code db do_ file H K) : CallF Tryz.prog 66 #[(.pointer (some ⟨db, do_, none⟩)), (.int .i64 file)] H K :=
  callF_of_eq (X := X) X_P X_wide X_bodied Tryz.func66 (R10_Disk_Delete.eq db do_ file H K) h

def R10_Disk_Sync.code (db : Nat) (do_ : Nat) (H : Heap) (K : Value → Heap → Prop) : Prop :=
  ∃ va : Option Addr, ∃ vn : Nat, ∃ vc : Nat, cellAt H db do_ = some (.slice va vn vc) ∧
  canSet H db (do_ + 1) [(.int .i64 (vn : Int))] ∧
  ∀ H_ : Heap, H_ = setAll H db (do_ + 1) [(.int .i64 (vn : Int))] →
  K (.tuple #[]) H_

def R10_Disk_Sync.ann : Ann := .reg

theorem R10_Disk_Sync.eq (db : Nat) (do_ : Nat) (H : Heap) (K : Value → Heap → Prop) : vcFun X Tryz.f25 R10_Disk_Sync.ann [(.pointer (some ⟨db, do_, none⟩))] H K = R10_Disk_Sync.code db do_ H K := by kernel_rfl

theorem R10_Disk_Sync.call {db : Nat} {do_ : Nat} {H : Heap} {K : Value → Heap → Prop} (h : R10_Disk_Sync.code db do_ H K) : CallF Tryz.prog 25 #[(.pointer (some ⟨db, do_, none⟩))] H K :=
  callF_of_eq (X := X) X_P X_wide X_bodied Tryz.func25 (R10_Disk_Sync.eq db do_ H K) h

def R10_Disk_Append.l1 (db : Nat) (do_ : Nat) (file : Int) (ba : Option Addr) (bn : Nat) (K : Value → Heap → Prop) (Inv : Int → Heap → Prop) (mu : Int → Heap → Nat) (i : Int) (H_ : Heap) : Prop :=
  (((decide (i < (bn : Int)))) = true →
  ∃ va : Option Addr, ∃ vn : Nat, ∃ vc : Nat, cellAt H_ db do_ = some (.slice va vn vc) ∧
  ((0 : Int) ≤ i ∧ i < (bn : Int)) ∧ ∃ b o : Nat, (ba = some ⟨b, o, none⟩) ∧
  ∃ v : Int, cellAt H_ b (o + i.toNat) = some (.int .u8 v) ∧
  ∀ (b1 : Nat) (H_1 : Heap), b1 = H_.size → H_1 = H_.push (.cells #[(.int .i64 file), (.int .u8 v)] 108) →
  cellAt H_1 db do_ = some (.slice va vn vc) ∧
  RunW Tryz.prog (Builtin.append_ #[28, 28] 28 #[(.slice va vn vc), (.slice (some ⟨b1, 0, none⟩) 1 1)]) H_1 fun u H_2 =>
  ∃ sa : Option Addr, ∃ sn : Nat, ∃ sc : Nat, u = (.slice sa sn sc) ∧
  canSet H_2 db do_ [(.slice sa sn sc)] ∧
  ∀ H_3 : Heap, H_3 = setAll H_2 db do_ [(.slice sa sn sc)] →
  Inv (IntKind.i64.wrap (i + 1)) H_3 ∧ mu (IntKind.i64.wrap (i + 1)) H_3 < mu i H_) ∧
  (((decide (i < (bn : Int)))) = false →
  K (.int .i64 0) H_)

def R10_Disk_Append.code (db : Nat) (do_ : Nat) (file : Int) (ba : Option Addr) (bn : Nat) (bc : Nat) (H : Heap) (K : Value → Heap → Prop) : Prop :=
  ((((decide (file < 0)) || (decide (2147483647 < file)))) = true →
  K (.int .i64 11) H) ∧
  ((((decide (file < 0)) || (decide (2147483647 < file)))) = false →
  ∃ (Inv : Int → Heap → Prop) (mu : Int → Heap → Nat), Inv 0 H ∧
  ∀ (i : Int), ∀ H_ : Heap, Inv i H_ → R10_Disk_Append.l1 db do_ file ba bn K Inv mu i H_)

def R10_Disk_Append.ann : Ann := (.seq .reg (.seq (.seq .reg (.cond (.seq .reg .no) .no)) (.seq (.seq .reg (.blk (.loop [(7, .one (.int .i64))] (.seq (.seq .reg (.cond .no .no)) (.seq (.blk .reg) .reg))))) (.seq .reg .no))))

theorem R10_Disk_Append.eq (db : Nat) (do_ : Nat) (file : Int) (ba : Option Addr) (bn : Nat) (bc : Nat) (H : Heap) (K : Value → Heap → Prop) : vcFun X Tryz.f65 R10_Disk_Append.ann [(.pointer (some ⟨db, do_, none⟩)), (.int .i64 file), (.slice ba bn bc)] H K = R10_Disk_Append.code db do_ file ba bn bc H K := by kernel_rfl

theorem R10_Disk_Append.call {db : Nat} {do_ : Nat} {file : Int} {ba : Option Addr} {bn : Nat} {bc : Nat} {H : Heap} {K : Value → Heap → Prop} (h : R10_Disk_Append.code db do_ file ba bn bc H K) : CallF Tryz.prog 65 #[(.pointer (some ⟨db, do_, none⟩)), (.int .i64 file), (.slice ba bn bc)] H K :=
  callF_of_eq (X := X) X_P X_wide X_bodied Tryz.func65 (R10_Disk_Append.eq db do_ file ba bn bc H K) h

def SameInts.l1 (aa : Option Addr) (an : Nat) (ba : Option Addr) (bn : Nat) (K : Value → Heap → Prop) (Inv : Int → Heap → Prop) (mu : Int → Heap → Nat) (i : Int) (H_ : Heap) : Prop :=
  (((decide (i < (an : Int)))) = true →
  ((0 : Int) ≤ i ∧ i < (an : Int)) ∧ ∃ b o : Nat, (aa = some ⟨b, o, none⟩) ∧
  ∃ v : Int, cellAt H_ b (o + i.toNat) = some (.int .i64 v) ∧
  ((0 : Int) ≤ i ∧ i < (bn : Int)) ∧ ∃ b1 o1 : Nat, (ba = some ⟨b1, o1, none⟩) ∧
  ∃ v1 : Int, cellAt H_ b1 (o1 + i.toNat) = some (.int .i64 v1) ∧
  (((!decide (v = v1))) = true →
  K (.bool false) H_) ∧
  (((!decide (v = v1))) = false →
  Inv (IntKind.i64.wrap (i + 1)) H_ ∧ mu (IntKind.i64.wrap (i + 1)) H_ < mu i H_)) ∧
  (((decide (i < (an : Int)))) = false →
  K (.bool true) H_)

def SameInts.code (aa : Option Addr) (an : Nat) (ac : Nat) (ba : Option Addr) (bn : Nat) (bc : Nat) (H : Heap) (K : Value → Heap → Prop) : Prop :=
  (((!decide ((an : Int) = (bn : Int)))) = true →
  K (.bool false) H) ∧
  (((!decide ((an : Int) = (bn : Int)))) = false →
  ∃ (Inv : Int → Heap → Prop) (mu : Int → Heap → Nat), Inv 0 H ∧
  ∀ (i : Int), ∀ H_ : Heap, Inv i H_ → SameInts.l1 aa an ba bn K Inv mu i H_)

def SameInts.ann : Ann := (.seq .reg (.seq (.seq .reg (.cond (.seq .reg .no) .no)) (.seq (.seq .reg (.blk (.loop [(5, .one (.int .i64))] (.seq (.seq .reg (.cond .no .no)) (.seq (.blk (.seq .reg (.cond (.seq .reg .no) .no))) .reg))))) (.seq .reg .no))))

theorem SameInts.eq (aa : Option Addr) (an : Nat) (ac : Nat) (ba : Option Addr) (bn : Nat) (bc : Nat) (H : Heap) (K : Value → Heap → Prop) : vcFun X Tryz.f32 SameInts.ann [(.slice aa an ac), (.slice ba bn bc)] H K = SameInts.code aa an ac ba bn bc H K := by kernel_rfl

theorem SameInts.call {aa : Option Addr} {an : Nat} {ac : Nat} {ba : Option Addr} {bn : Nat} {bc : Nat} {H : Heap} {K : Value → Heap → Prop} (h : SameInts.code aa an ac ba bn bc H K) : CallF Tryz.prog 32 #[(.slice aa an ac), (.slice ba bn bc)] H K :=
  callF_of_eq (X := X) X_P X_wide X_bodied Tryz.func32 (SameInts.eq aa an ac ba bn bc H K) h

def disk_Append.r1 (Inv : Int → Heap → Prop) (mu : Int → Heap → Nat) (t17 : Int) (H_ : Heap) (H_1 : Heap) : Prop :=
  Inv (IntKind.i64.wrap (t17 + 1)) H_1 ∧ mu (IntKind.i64.wrap (t17 + 1)) H_1 < mu t17 H_

def disk_Append.l2 (db : Nat) (do_ : Nat) (file : Int) (partsa : Option Addr) (partsn : Nat) (K : Value → Heap → Prop) (Inv : Int → Heap → Prop) (mu : Int → Heap → Nat) (t17 : Int) (H_ : Heap) : Prop :=
  (((decide (t17 < (partsn : Int)))) = true →
  ((0 : Int) ≤ t17 ∧ t17 < (partsn : Int)) ∧ ∃ b o : Nat, (partsa = some ⟨b, o, none⟩) ∧
  ∃ va : Option Addr, ∃ vn : Nat, ∃ vc : Nat, cellAt H_ b (o + t17.toNat) = some (.slice va vn vc) ∧
  ∀ Jn : Heap → Prop, (∀ H_1 : Heap, disk_Append.r1 Inv mu t17 H_ H_1 → Jn H_1) →
  (((decide (0 < (vn : Int)))) = true →
  ∃ v : Option Nat, cellAt H_ db do_ = some (.map v) ∧
  ∃ v1 : Option Nat, cellAt H_ db do_ = some (.map v1) ∧
  ∃ ma : Option Addr, ∃ mn : Nat, ∃ mc : Nat, ReadRun Tryz.prog (Instr.lookup 65 (.map v1) (.int .i64 file) false) H_ (.slice ma mn mc) ∧
  RunW Tryz.prog (Builtin.append_ #[32, 32] 32 #[(.slice ma mn mc), (.slice va vn vc)]) H_ fun u H_2 =>
  ∃ sa : Option Addr, ∃ sn : Nat, ∃ sc : Nat, u = (.slice sa sn sc) ∧
  cellAt H_2 db do_ = some (.map v) ∧
  RunW Tryz.prog (Instr.mapUpdate 65 (.map v) (.int .i64 file) (.slice sa sn sc)) H_2 fun u1 H_3 =>
  CallF Tryz.prog 72 #[(.pointer (some ⟨db, do_, none⟩)), (.int .i64 file), (.int .i64 (vn : Int))] H_3 fun u2 H_4 => u2 = (.tuple #[]) ∧
  Jn H_4) ∧
  (((decide (0 < (vn : Int)))) = false →
  Jn H_)) ∧
  (((decide (t17 < (partsn : Int)))) = false →
  K (.int .i64 0) H_)

def disk_Append.code (db : Nat) (do_ : Nat) (file : Int) (partsa : Option Addr) (partsn : Nat) (partsc : Nat) (H : Heap) (K : Value → Heap → Prop) : Prop :=
  ((((decide (file < 0)) || (decide (2147483647 < file)))) = true →
  K (.int .i64 11) H) ∧
  ((((decide (file < 0)) || (decide (2147483647 < file)))) = false →
  ∃ (Inv : Int → Heap → Prop) (mu : Int → Heap → Nat), Inv 0 H ∧
  ∀ (t17 : Int), ∀ H_ : Heap, Inv t17 H_ → disk_Append.l2 db do_ file partsa partsn K Inv mu t17 H_)

def disk_Append.ann : Ann := (.seq .reg (.seq (.seq .reg (.cond (.seq .reg .no) .no)) (.seq (.seq .reg (.blk (.loop [(17, .one (.int .i64))] (.seq .reg (.seq (.cond .no .no) (.seq (.blk (.seq .reg (.seq .reg (.condJ [] (.seq .reg .reg) .no)))) .reg)))))) (.seq .reg .no))))

theorem disk_Append.eq (db : Nat) (do_ : Nat) (file : Int) (partsa : Option Addr) (partsn : Nat) (partsc : Nat) (H : Heap) (K : Value → Heap → Prop) : vcFun X Tryz.f56 disk_Append.ann [(.pointer (some ⟨db, do_, none⟩)), (.int .i64 file), (.slice partsa partsn partsc)] H K = disk_Append.code db do_ file partsa partsn partsc H K := by kernel_rfl

theorem disk_Append.call {db : Nat} {do_ : Nat} {file : Int} {partsa : Option Addr} {partsn : Nat} {partsc : Nat} {H : Heap} {K : Value → Heap → Prop} (h : disk_Append.code db do_ file partsa partsn partsc H K) : CallF Tryz.prog 56 #[(.pointer (some ⟨db, do_, none⟩)), (.int .i64 file), (.slice partsa partsn partsc)] H K :=
  callF_of_eq (X := X) X_P X_wide X_bodied Tryz.func56 (disk_Append.eq db do_ file partsa partsn partsc H K) h

def CopyBytes.code (ba : Option Addr) (bn : Nat) (bc : Nat) (H : Heap) (K : Value → Heap → Prop) : Prop :=
  ∀ (b : Nat) (H_ : Heap), b = H.size → H_ = H.push (.cells #[] 5) →
  RunW Tryz.prog (Builtin.append_ #[32, 32] 32 #[(.slice (some ⟨b, 0, none⟩) 0 0), (.slice ba bn bc)]) H_ fun u H_1 =>
  ∃ sa : Option Addr, ∃ sn : Nat, ∃ sc : Nat, u = (.slice sa sn sc) ∧
  K (.slice sa sn sc) H_1

def CopyBytes.ann : Ann := (.seq .reg (.seq .reg .no))

theorem CopyBytes.eq (ba : Option Addr) (bn : Nat) (bc : Nat) (H : Heap) (K : Value → Heap → Prop) : vcFun X Tryz.f23 CopyBytes.ann [(.slice ba bn bc)] H K = CopyBytes.code ba bn bc H K := by kernel_rfl

theorem CopyBytes.call {ba : Option Addr} {bn : Nat} {bc : Nat} {H : Heap} {K : Value → Heap → Prop} (h : CopyBytes.code ba bn bc H K) : CallF Tryz.prog 23 #[(.slice ba bn bc)] H K :=
  callF_of_eq (X := X) X_P X_wide X_bodied Tryz.func23 (CopyBytes.eq ba bn bc H K) h

def disk_Delete.code (db : Nat) (do_ : Nat) (file : Int) (H : Heap) (K : Value → Heap → Prop) : Prop :=
  ∃ v : Option Nat, cellAt H db do_ = some (.map v) ∧
  ∃ ma : Option Addr, ∃ mn : Nat, ∃ mc : Nat, ∃ there : Bool, ReadRun Tryz.prog (Instr.lookup 65 (.map v) (.int .i64 file) true) H (.tuple #[(.slice ma mn mc), (.bool there)]) ∧
  (((!there)) = true →
  K (.int .i64 23) H) ∧
  (((!there)) = false →
  ∃ va : Option Addr, ∃ vn : Nat, ∃ vc : Nat, cellAt H db (do_ + 1) = some (.slice va vn vc) ∧
  (((decide (0 < (vn : Int)))) = true →
  K (.int .i64 21) H) ∧
  (((decide (0 < (vn : Int)))) = false →
  ∃ v1 : Option Nat, cellAt H db do_ = some (.map v1) ∧
  RunW Tryz.prog (Builtin.delete_ #[65, 3] 0 #[(.map v1), (.int .i64 file)]) H fun u H_ =>
  K (.int .i64 0) H_))

def disk_Delete.ann : Ann := (.seq .reg (.seq (.seq .reg (.seq .reg (.cond (.seq .reg .no) .no))) (.seq (.seq .reg (.cond (.seq .reg .no) .no)) (.seq .reg (.seq .reg .no)))))

theorem disk_Delete.eq (db : Nat) (do_ : Nat) (file : Int) (H : Heap) (K : Value → Heap → Prop) : vcFun X Tryz.f57 disk_Delete.ann [(.pointer (some ⟨db, do_, none⟩)), (.int .i64 file)] H K = disk_Delete.code db do_ file H K := by kernel_rfl

theorem disk_Delete.call {db : Nat} {do_ : Nat} {file : Int} {H : Heap} {K : Value → Heap → Prop} (h : disk_Delete.code db do_ file H K) : CallF Tryz.prog 57 #[(.pointer (some ⟨db, do_, none⟩)), (.int .i64 file)] H K :=
  callF_of_eq (X := X) X_P X_wide X_bodied Tryz.func57 (disk_Delete.eq db do_ file H K) h

def disk_Sync.code (db : Nat) (do_ : Nat) (H : Heap) (K : Value → Heap → Prop) : Prop :=
  canSet H db (do_ + 1) [(.slice none 0 0)] ∧
  ∀ H_ : Heap, H_ = setAll H db (do_ + 1) [(.slice none 0 0)] →
  K (.tuple #[]) H_

def disk_Sync.ann : Ann := .reg

theorem disk_Sync.eq (db : Nat) (do_ : Nat) (H : Heap) (K : Value → Heap → Prop) : vcFun X Tryz.f41 disk_Sync.ann [(.pointer (some ⟨db, do_, none⟩))] H K = disk_Sync.code db do_ H K := by kernel_rfl

theorem disk_Sync.call {db : Nat} {do_ : Nat} {H : Heap} {K : Value → Heap → Prop} (h : disk_Sync.code db do_ H K) : CallF Tryz.prog 41 #[(.pointer (some ⟨db, do_, none⟩))] H K :=
  callF_of_eq (X := X) X_P X_wide X_bodied Tryz.func41 (disk_Sync.eq db do_ H K) h

def disk_Size.l1 (K : Value → Heap → Prop) (it : Nat) (Inv : Int → Heap → Prop) (mu : Int → Heap → Nat) (sum : Int) (H_1 : Heap) : Prop :=
  RunW Tryz.prog (Instr.next (.pointer (some ⟨it, 0, none⟩)) false 0) H_1 fun u1 H_2 =>
  (u1 = (.tuple #[(.bool false)]) ∧
  ((false) = true →
  ∃ k : Value, ∃ xa : Option Addr, ∃ xn : Nat, ∃ xc : Nat, ReadRun Tryz.prog (Instr.entry (.pointer (some ⟨it, 0, none⟩))) H_2 (.tuple #[k, (.slice xa xn xc)]) ∧
  Inv (IntKind.i64.wrap (sum + (xn : Int))) H_2 ∧ mu (IntKind.i64.wrap (sum + (xn : Int))) H_2 < mu sum H_1) ∧
  ((false) = false →
  K (.int .i64 sum) H_2)) ∨
  (∃ k1 x : Value, u1 = (.tuple #[(.bool true), k1, x]) ∧
  ((true) = true →
  ∃ k2 : Value, ∃ xa1 : Option Addr, ∃ xn1 : Nat, ∃ xc1 : Nat, ReadRun Tryz.prog (Instr.entry (.pointer (some ⟨it, 0, none⟩))) H_2 (.tuple #[k2, (.slice xa1 xn1 xc1)]) ∧
  Inv (IntKind.i64.wrap (sum + (xn1 : Int))) H_2 ∧ mu (IntKind.i64.wrap (sum + (xn1 : Int))) H_2 < mu sum H_1) ∧
  ((true) = false →
  K (.int .i64 sum) H_2))

def disk_Size.code (db : Nat) (do_ : Nat) (H : Heap) (K : Value → Heap → Prop) : Prop :=
  ∃ v : Option Nat, cellAt H db do_ = some (.map v) ∧
  RunW Tryz.prog (Instr.range 65 (.map v)) H fun u H_ =>
  ∃ it : Nat, u = .pointer (some ⟨it, 0, none⟩) ∧
  ∃ (Inv : Int → Heap → Prop) (mu : Int → Heap → Nat), Inv 0 H_ ∧
  ∀ (sum : Int), ∀ H_1 : Heap, Inv sum H_1 → disk_Size.l1 K it Inv mu sum H_1

def disk_Size.ann : Ann := (.seq .reg (.seq .reg (.seq (.seq .reg (.blk (.loop [(3, .one (.int .i64))] (.seq .reg (.seq (.cond .no .no) (.blk (.seq .reg .reg))))))) (.seq .reg .no))))

theorem disk_Size.eq (db : Nat) (do_ : Nat) (H : Heap) (K : Value → Heap → Prop) : vcFun (X.nx [(13, .one (.raw), .one (.slice))]) Tryz.f35 disk_Size.ann [(.pointer (some ⟨db, do_, none⟩))] H K = disk_Size.code db do_ H K := by kernel_rfl

theorem disk_Size.call {db : Nat} {do_ : Nat} {H : Heap} {K : Value → Heap → Prop} (h : disk_Size.code db do_ H K) : CallF Tryz.prog 35 #[(.pointer (some ⟨db, do_, none⟩))] H K :=
  callF_of_eq (X := (X.nx [(13, .one (.raw), .one (.slice))])) X_P X_wide X_bodied Tryz.func35 (disk_Size.eq db do_ H K) h

def disk_Files.l1 (K : Value → Heap → Prop) (it : Nat) (Inv : (Option Addr) → Nat → Nat → Heap → Prop) (mu : (Option Addr) → Nat → Nat → Heap → Nat) (lista : Option Addr) (listn : Nat) (listc : Nat) (H_1 : Heap) : Prop :=
  RunW Tryz.prog (Instr.next (.pointer (some ⟨it, 0, none⟩)) false 0) H_1 fun u1 H_2 =>
  (u1 = (.tuple #[(.bool false)]) ∧
  ((false) = true →
  ∃ k : Int, ∃ x : Value, ReadRun Tryz.prog (Instr.entry (.pointer (some ⟨it, 0, none⟩))) H_2 (.tuple #[(.int .i64 k), x]) ∧
  ∀ (b : Nat) (H_3 : Heap), b = H_2.size → H_3 = H_2.push (.cells #[(.int .i64 k)] 3) →
  RunW Tryz.prog (Builtin.append_ #[82, 82] 82 #[(.slice lista listn listc), (.slice (some ⟨b, 0, none⟩) 1 1)]) H_3 fun u2 H_4 =>
  ∃ sa : Option Addr, ∃ sn : Nat, ∃ sc : Nat, u2 = (.slice sa sn sc) ∧
  Inv sa sn sc H_4 ∧ mu sa sn sc H_4 < mu lista listn listc H_1) ∧
  ((false) = false →
  CallF Tryz.prog 52 #[(.slice lista listn listc)] H_2 fun u3 H_5 => u3 = (.tuple #[]) ∧
  K (.slice lista listn listc) H_5)) ∨
  (∃ k1 x1 : Value, u1 = (.tuple #[(.bool true), k1, x1]) ∧
  ((true) = true →
  ∃ k2 : Int, ∃ x2 : Value, ReadRun Tryz.prog (Instr.entry (.pointer (some ⟨it, 0, none⟩))) H_2 (.tuple #[(.int .i64 k2), x2]) ∧
  ∀ (b1 : Nat) (H_6 : Heap), b1 = H_2.size → H_6 = H_2.push (.cells #[(.int .i64 k2)] 3) →
  RunW Tryz.prog (Builtin.append_ #[82, 82] 82 #[(.slice lista listn listc), (.slice (some ⟨b1, 0, none⟩) 1 1)]) H_6 fun u4 H_7 =>
  ∃ sa1 : Option Addr, ∃ sn1 : Nat, ∃ sc1 : Nat, u4 = (.slice sa1 sn1 sc1) ∧
  Inv sa1 sn1 sc1 H_7 ∧ mu sa1 sn1 sc1 H_7 < mu lista listn listc H_1) ∧
  ((true) = false →
  CallF Tryz.prog 52 #[(.slice lista listn listc)] H_2 fun u5 H_8 => u5 = (.tuple #[]) ∧
  K (.slice lista listn listc) H_8))

def disk_Files.code (db : Nat) (do_ : Nat) (H : Heap) (K : Value → Heap → Prop) : Prop :=
  ∃ v : Option Nat, cellAt H db do_ = some (.map v) ∧
  RunW Tryz.prog (Instr.range 65 (.map v)) H fun u H_ =>
  ∃ it : Nat, u = .pointer (some ⟨it, 0, none⟩) ∧
  ∃ (Inv : (Option Addr) → Nat → Nat → Heap → Prop) (mu : (Option Addr) → Nat → Nat → Heap → Nat), Inv none 0 0 H_ ∧
  ∀ (lista : Option Addr) (listn : Nat) (listc : Nat), ∀ H_1 : Heap, Inv lista listn listc H_1 → disk_Files.l1 K it Inv mu lista listn listc H_1

def disk_Files.ann : Ann := (.seq .reg (.seq .reg (.seq (.seq .reg (.blk (.loop [(3, .one (.slice))] (.seq .reg (.seq (.cond .no .no) (.blk (.seq .reg .reg))))))) (.seq .reg (.seq .reg .no)))))

theorem disk_Files.eq (db : Nat) (do_ : Nat) (H : Heap) (K : Value → Heap → Prop) : vcFun (X.nx [(12, .one (.int .i64), .one (.raw))]) Tryz.f33 disk_Files.ann [(.pointer (some ⟨db, do_, none⟩))] H K = disk_Files.code db do_ H K := by kernel_rfl

theorem disk_Files.call {db : Nat} {do_ : Nat} {H : Heap} {K : Value → Heap → Prop} (h : disk_Files.code db do_ H K) : CallF Tryz.prog 33 #[(.pointer (some ⟨db, do_, none⟩))] H K :=
  callF_of_eq (X := (X.nx [(12, .one (.int .i64), .one (.raw))])) X_P X_wide X_bodied Tryz.func33 (disk_Files.eq db do_ H K) h

def disk_Pending.l1 (K : Value → Heap → Prop) (va : Option Addr) (vn : Nat) (Inv : Int → Int → Heap → Prop) (mu : Int → Int → Heap → Nat) (sum : Int) (t11 : Int) (H_ : Heap) : Prop :=
  (((decide (t11 < (vn : Int)))) = true →
  ((0 : Int) ≤ t11 ∧ t11 < (vn : Int)) ∧ ∃ b o : Nat, (va = some ⟨b, o, none⟩) ∧
  ∃ c0 : Int, ∃ c1 : Int, cellsAre H_ b (o + t11.toNat * 2) [(.int .i64 c0), (.int .i64 c1)] ∧
  ∀ (b1 : Nat) (H_1 : Heap), b1 = H_.size → H_1 = H_.push (.cells #[(.int .i64 0), (.int .i64 0)] 101) →
  canSet H_1 b1 0 [(.int .i64 c0), (.int .i64 c1)] ∧
  ∀ H_2 : Heap, H_2 = setAll H_1 b1 0 [(.int .i64 c0), (.int .i64 c1)] →
  ∃ v : Int, cellAt H_2 b1 1 = some (.int .i64 v) ∧
  Inv (IntKind.i64.wrap (sum + v)) (IntKind.i64.wrap (t11 + 1)) H_2 ∧ mu (IntKind.i64.wrap (sum + v)) (IntKind.i64.wrap (t11 + 1)) H_2 < mu sum t11 H_) ∧
  (((decide (t11 < (vn : Int)))) = false →
  K (.int .i64 sum) H_)

def disk_Pending.code (db : Nat) (do_ : Nat) (H : Heap) (K : Value → Heap → Prop) : Prop :=
  ∃ va : Option Addr, ∃ vn : Nat, ∃ vc : Nat, cellAt H db (do_ + 1) = some (.slice va vn vc) ∧
  ∃ (Inv : Int → Int → Heap → Prop) (mu : Int → Int → Heap → Nat), Inv 0 0 H ∧
  ∀ (sum : Int) (t11 : Int), ∀ H_ : Heap, Inv sum t11 H_ → disk_Pending.l1 K va vn Inv mu sum t11 H_

def disk_Pending.ann : Ann := (.seq .reg (.seq .reg (.seq (.seq .reg (.blk (.loop [(3, .one (.int .i64)), (11, .one (.int .i64))] (.seq .reg (.seq (.cond .no .no) (.seq (.blk (.seq .reg .reg)) .reg)))))) (.seq .reg .no))))

theorem disk_Pending.eq (db : Nat) (do_ : Nat) (H : Heap) (K : Value → Heap → Prop) : vcFun X Tryz.f34 disk_Pending.ann [(.pointer (some ⟨db, do_, none⟩))] H K = disk_Pending.code db do_ H K := by kernel_rfl

theorem disk_Pending.call {db : Nat} {do_ : Nat} {H : Heap} {K : Value → Heap → Prop} (h : disk_Pending.code db do_ H K) : CallF Tryz.prog 34 #[(.pointer (some ⟨db, do_, none⟩))] H K :=
  callF_of_eq (X := X) X_P X_wide X_bodied Tryz.func34 (disk_Pending.eq db do_ H K) h

def disk_Crash.y1 (b : Nat) (b1 : Nat) (H_4 : Heap) (R : Loop) (vs : List Value) (H_5 : Heap) (K_ : Value → Heap → Prop) : Prop :=
  ∃ y : Int, ∃ y0 : Int, ∃ y1 : Int, vs = [(.int .i64 y), (.agg #[(.int .i64 y0), (.int .i64 y1)])] ∧
  H_5[H_4.size + 1]? = some (.loop R) ∧
  ∀ (b2 : Nat) (H_6 : Heap), b2 = H_5.size → H_6 = H_5.push (.cells #[(.int .i64 0), (.int .i64 0)] 101) →
  canSet H_6 b2 0 [(.int .i64 y0), (.int .i64 y1)] ∧
  ∀ H_7 : Heap, H_7 = setAll H_6 b2 0 [(.int .i64 y0), (.int .i64 y1)] →
  H_7[H_4.size + 1]? = some (.loop R) ∧
  ∀ H_8 : Heap, H_8 = setLoop H_7 (H_4.size + 1) { R with state := .busy } →
  ∃ v2 : Int, cellAt H_8 b1 0 = some (.int .i64 v2) ∧
  (((decide (v2 ≤ 0))) = true →
  H_8[H_4.size + 1]? = some (.loop { R with state := .busy }) ∧ K_ (.bool false) (setLoop H_8 (H_4.size + 1) { R with state := .done, pending := some (.exit 0) })) ∧
  (((decide (v2 ≤ 0))) = false →
  ∃ v3 : Option Addr, cellAt H_8 b 0 = some (.pointer v3) ∧
  ∃ v4 : Int, cellAt H_8 b2 0 = some (.int .i64 v4) ∧
  ∃ v5 : Int, cellAt H_8 b2 1 = some (.int .i64 v5) ∧
  ∃ v6 : Int, cellAt H_8 b1 0 = some (.int .i64 v6) ∧
  CallF Tryz.prog 48 #[(.pointer v3), (.int .i64 v4), (.int .i64 (if v6 < v5 then v6 else v5))] H_8 fun u2 H_9 => u2 = (.tuple #[]) ∧
  ∃ v7 : Int, cellAt H_9 b1 0 = some (.int .i64 v7) ∧
  ∃ v8 : Int, cellAt H_9 b2 1 = some (.int .i64 v8) ∧
  canSet H_9 b1 0 [(.int .i64 (IntKind.i64.wrap (v7 - v8)))] ∧
  ∀ H_10 : Heap, H_10 = setAll H_9 b1 0 [(.int .i64 (IntKind.i64.wrap (v7 - v8)))] →
  H_10[H_4.size + 1]? = some (.loop { R with state := .busy }) ∧ K_ (.bool true) (setLoop H_10 (H_4.size + 1) R))

def disk_Crash.code (db : Nat) (do_ : Nat) (keep : Int) (H : Heap) (K : Value → Heap → Prop) : Prop :=
  ∀ (b : Nat) (H_ : Heap), b = H.size → H_ = H.push (.cells #[(.pointer (some ⟨db, do_, none⟩))] 25) →
  ∃ v : Option Addr, cellAt H_ b 0 = some (.pointer v) ∧
  CallF Tryz.prog 34 #[(.pointer v)] H_ fun u H_1 => ∃ r : Int, u = (.int .i64 r) ∧
  ∀ (b1 : Nat) (H_2 : Heap), b1 = H_1.size → H_2 = H_1.push (.cells #[(.int .i64 0)] 3) →
  canSet H_2 b1 0 [(.int .i64 (IntKind.i64.wrap (r - (if 0 > keep then 0 else keep))))] ∧
  ∀ H_3 : Heap, H_3 = setAll H_2 b1 0 [(.int .i64 (IntKind.i64.wrap (r - (if 0 > keep then 0 else keep))))] →
  ∃ v1 : Option Addr, cellAt H_3 b 0 = some (.pointer v1) ∧
  NN v1 (
  ∃ va : Option Addr, ∃ vn : Nat, ∃ vc : Nat, cellAt H_3 (adrB v1) ((adrO v1) + 1) = some (.slice va vn vc) ∧
  CallF Tryz.prog 47 #[(.slice va vn vc)] H_3 fun u1 H_4 => ∃ rf : FuncId, ∃ rl : List Value, u1 = (.func (.func rf) #[] ⟨rl⟩) ∧
  memN rf X.calls = true ∧
  ∀ R : Loop, R.state = .ready → R.pending = none →
  (∀ (vs : List Value) (H_5 : Heap) (K_ : Value → Heap → Prop), disk_Crash.y1 b b1 H_4 R vs H_5 K_ → YieldF Tryz.prog (H_4.size + 1) vs H_5 K_) →
  CallF Tryz.prog rf ⟨(.func (.yield (H_4.size + 1)) #[] #[]) :: rl⟩ ((H_4.push (.deferred (some []))).push (.loop R)) fun u3 H_11 => ∃ (st : LoopState) (pd : Option Code), st ≠ .busy ∧ H_11[H_4.size + 1]? = some (.loop { R with state := st, pending := pd }) ∧
  ∀ H_12 : Heap, H_12 = setLoop H_11 (H_4.size + 1) { R with state := .exhausted, pending := pd } →
  ((pd = none ∧
  ∃ v9 : Option Addr, cellAt H_12 b 0 = some (.pointer v9) ∧
  NN v9 (
  canSet H_12 (adrB v9) ((adrO v9) + 1) [(.slice none 0 0)] ∧
  ∀ H_13 : Heap, H_13 = setAll H_12 (adrB v9) ((adrO v9) + 1) [(.slice none 0 0)] →
  H_13[H_4.size]? = some (.deferred (some [])) ∧
  K (.tuple #[]) (H_13.setIfInBounds H_4.size (.deferred none)))) ∨
  pd = (some (.exit 0)) ∧
  ∃ v10 : Option Addr, cellAt H_12 b 0 = some (.pointer v10) ∧
  NN v10 (
  canSet H_12 (adrB v10) ((adrO v10) + 1) [(.slice none 0 0)] ∧
  ∀ H_14 : Heap, H_14 = setAll H_12 (adrB v10) ((adrO v10) + 1) [(.slice none 0 0)] →
  H_14[H_4.size]? = some (.deferred (some [])) ∧
  K (.tuple #[]) (H_14.setIfInBounds H_4.size (.deferred none)))))

def disk_Crash.ann : Ann := (.seq .reg (.seq .reg (.seq (.seq .reg (.blk (.rng [.one (.int .i64), .agg [.int .i64, .int .i64]] [none, (some (.exit 0))] .reg (.blk (.seq (.seq .reg (.cond .no .no)) (.seq .reg .reg)))))) .reg)))

theorem disk_Crash.eq (db : Nat) (do_ : Nat) (keep : Int) (H : Heap) (K : Value → Heap → Prop) : vcFun X Tryz.f28 disk_Crash.ann [(.pointer (some ⟨db, do_, none⟩)), (.int .i64 keep)] H K = disk_Crash.code db do_ keep H K := by kernel_rfl

theorem disk_Crash.call {db : Nat} {do_ : Nat} {keep : Int} {H : Heap} {K : Value → Heap → Prop} (h : disk_Crash.code db do_ keep H K) : CallF Tryz.prog 28 #[(.pointer (some ⟨db, do_, none⟩)), (.int .i64 keep)] H K :=
  callF_of_eq (X := X) X_P X_wide X_bodied Tryz.func28 (disk_Crash.eq db do_ keep H K) h

def SameBytes.l1 (aa : Option Addr) (an : Nat) (ba : Option Addr) (bn : Nat) (K : Value → Heap → Prop) (Inv : Int → Heap → Prop) (mu : Int → Heap → Nat) (i : Int) (H_ : Heap) : Prop :=
  (((decide (i < (an : Int)))) = true →
  ((0 : Int) ≤ i ∧ i < (an : Int)) ∧ ∃ b o : Nat, (aa = some ⟨b, o, none⟩) ∧
  ∃ v : Int, cellAt H_ b (o + i.toNat) = some (.int .u8 v) ∧
  ((0 : Int) ≤ i ∧ i < (bn : Int)) ∧ ∃ b1 o1 : Nat, (ba = some ⟨b1, o1, none⟩) ∧
  ∃ v1 : Int, cellAt H_ b1 (o1 + i.toNat) = some (.int .u8 v1) ∧
  (((!decide (v = v1))) = true →
  K (.bool false) H_) ∧
  (((!decide (v = v1))) = false →
  Inv (IntKind.i64.wrap (i + 1)) H_ ∧ mu (IntKind.i64.wrap (i + 1)) H_ < mu i H_)) ∧
  (((decide (i < (an : Int)))) = false →
  K (.bool true) H_)

def SameBytes.code (aa : Option Addr) (an : Nat) (ac : Nat) (ba : Option Addr) (bn : Nat) (bc : Nat) (H : Heap) (K : Value → Heap → Prop) : Prop :=
  (((!decide ((an : Int) = (bn : Int)))) = true →
  K (.bool false) H) ∧
  (((!decide ((an : Int) = (bn : Int)))) = false →
  ∃ (Inv : Int → Heap → Prop) (mu : Int → Heap → Nat), Inv 0 H ∧
  ∀ (i : Int), ∀ H_ : Heap, Inv i H_ → SameBytes.l1 aa an ba bn K Inv mu i H_)

def SameBytes.ann : Ann := (.seq .reg (.seq (.seq .reg (.cond (.seq .reg .no) .no)) (.seq (.seq .reg (.blk (.loop [(5, .one (.int .i64))] (.seq (.seq .reg (.cond .no .no)) (.seq (.blk (.seq .reg (.cond (.seq .reg .no) .no))) .reg))))) (.seq .reg .no))))

theorem SameBytes.eq (aa : Option Addr) (an : Nat) (ac : Nat) (ba : Option Addr) (bn : Nat) (bc : Nat) (H : Heap) (K : Value → Heap → Prop) : vcFun X Tryz.f18 SameBytes.ann [(.slice aa an ac), (.slice ba bn bc)] H K = SameBytes.code aa an ac ba bn bc H K := by kernel_rfl

theorem SameBytes.call {aa : Option Addr} {an : Nat} {ac : Nat} {ba : Option Addr} {bn : Nat} {bc : Nat} {H : Heap} {K : Value → Heap → Prop} (h : SameBytes.code aa an ac ba bn bc H K) : CallF Tryz.prog 18 #[(.slice aa an ac), (.slice ba bn bc)] H K :=
  callF_of_eq (X := X) X_P X_wide X_bodied Tryz.func18 (SameBytes.eq aa an ac ba bn bc H K) h

def R10_Disk_Read.r1 (Inv : (Option Addr) → Nat → Nat → Int → Heap → Prop) (mu : (Option Addr) → Nat → Nat → Int → Heap → Nat) (outa : Option Addr) (outn : Nat) (outc : Nat) (i : Int) (H_1 : Heap) (outa1 : Option Addr) (outn1 : Nat) (outc1 : Nat) (H_2 : Heap) : Prop :=
  Inv outa1 outn1 outc1 (IntKind.i64.wrap (i + 1)) H_2 ∧ mu outa1 outn1 outc1 (IntKind.i64.wrap (i + 1)) H_2 < mu outa outn outc i H_1

def R10_Disk_Read.l2 (db : Nat) (do_ : Nat) (file : Int) (K : Value → Heap → Prop) (Inv : (Option Addr) → Nat → Nat → Int → Heap → Prop) (mu : (Option Addr) → Nat → Nat → Int → Heap → Nat) (outa : Option Addr) (outn : Nat) (outc : Nat) (i : Int) (H_1 : Heap) : Prop :=
  ∃ va : Option Addr, ∃ vn : Nat, ∃ vc : Nat, cellAt H_1 db do_ = some (.slice va vn vc) ∧
  (((decide (i < (vn : Int)))) = true →
  ∃ va1 : Option Addr, ∃ vn1 : Nat, ∃ vc1 : Nat, cellAt H_1 db do_ = some (.slice va1 vn1 vc1) ∧
  ((0 : Int) ≤ i ∧ i < (vn1 : Int)) ∧ ∃ b1 o : Nat, (va1 = some ⟨b1, o, none⟩) ∧
  ∃ v : Int, cellAt H_1 b1 (o + i.toNat * 2) = some (.int .i64 v) ∧
  ∀ Jn : (Option Addr) → Nat → Nat → Heap → Prop, (∀ (outa1 : Option Addr) (outn1 : Nat) (outc1 : Nat), ∀ H_2 : Heap, R10_Disk_Read.r1 Inv mu outa outn outc i H_1 outa1 outn1 outc1 H_2 → Jn outa1 outn1 outc1 H_2) →
  (((decide (v = file))) = true →
  ∃ va2 : Option Addr, ∃ vn2 : Nat, ∃ vc2 : Nat, cellAt H_1 db do_ = some (.slice va2 vn2 vc2) ∧
  ((0 : Int) ≤ i ∧ i < (vn2 : Int)) ∧ ∃ b2 o1 : Nat, (va2 = some ⟨b2, o1, none⟩) ∧
  ∃ v1 : Int, cellAt H_1 b2 (o1 + i.toNat * 2 + 1) = some (.int .u8 v1) ∧
  ∀ (b3 : Nat) (H_3 : Heap), b3 = H_1.size → H_3 = H_1.push (.cells #[(.int .u8 v1)] 5) →
  RunW Tryz.prog (Builtin.append_ #[32, 32] 32 #[(.slice outa outn outc), (.slice (some ⟨b3, 0, none⟩) 1 1)]) H_3 fun u H_4 =>
  ∃ sa : Option Addr, ∃ sn : Nat, ∃ sc : Nat, u = (.slice sa sn sc) ∧
  Jn sa sn sc H_4) ∧
  (((decide (v = file))) = false →
  Jn outa outn outc H_1)) ∧
  (((decide (i < (vn : Int)))) = false →
  K (.slice outa outn outc) H_1)

def R10_Disk_Read.code (db : Nat) (do_ : Nat) (file : Int) (H : Heap) (K : Value → Heap → Prop) : Prop :=
  ∀ (b : Nat) (H_ : Heap), b = H.size → H_ = H.push (.cells #[] 5) →
  ∃ (Inv : (Option Addr) → Nat → Nat → Int → Heap → Prop) (mu : (Option Addr) → Nat → Nat → Int → Heap → Nat), Inv (some ⟨b, 0, none⟩) 0 0 0 H_ ∧
  ∀ (outa : Option Addr) (outn : Nat) (outc : Nat) (i : Int), ∀ H_1 : Heap, Inv outa outn outc i H_1 → R10_Disk_Read.l2 db do_ file K Inv mu outa outn outc i H_1

def R10_Disk_Read.ann : Ann := (.seq .reg (.seq .reg (.seq (.seq .reg (.blk (.loop [(5, .one (.slice)), (6, .one (.int .i64))] (.seq (.seq .reg (.cond .no .no)) (.seq (.blk (.seq .reg (.condJ [(5, .one (.slice))] .reg .no))) .reg))))) (.seq .reg .no))))

theorem R10_Disk_Read.eq (db : Nat) (do_ : Nat) (file : Int) (H : Heap) (K : Value → Heap → Prop) : vcFun X Tryz.f37 R10_Disk_Read.ann [(.pointer (some ⟨db, do_, none⟩)), (.int .i64 file)] H K = R10_Disk_Read.code db do_ file H K := by kernel_rfl

theorem R10_Disk_Read.call {db : Nat} {do_ : Nat} {file : Int} {H : Heap} {K : Value → Heap → Prop} (h : R10_Disk_Read.code db do_ file H K) : CallF Tryz.prog 37 #[(.pointer (some ⟨db, do_, none⟩)), (.int .i64 file)] H K :=
  callF_of_eq (X := X) X_P X_wide X_bodied Tryz.func37 (R10_Disk_Read.eq db do_ file H K) h

def disk_Read.code (db : Nat) (do_ : Nat) (file : Int) (H : Heap) (K : Value → Heap → Prop) : Prop :=
  ∃ v : Option Nat, cellAt H db do_ = some (.map v) ∧
  ∃ ma : Option Addr, ∃ mn : Nat, ∃ mc : Nat, ∃ there : Bool, ReadRun Tryz.prog (Instr.lookup 65 (.map v) (.int .i64 file) true) H (.tuple #[(.slice ma mn mc), (.bool there)]) ∧
  (((!there)) = true →
  K (.tuple #[(.slice none 0 0), (.int .i64 23)]) H) ∧
  (((!there)) = false →
  CallF Tryz.prog 53 #[(.slice ma mn mc)] H fun u H_ => ∃ ra : Option Addr, ∃ rn : Nat, ∃ rc : Nat, u = (.slice ra rn rc) ∧
  K (.tuple #[(.slice ra rn rc), (.int .i64 0)]) H_)

def disk_Read.ann : Ann := (.seq .reg (.seq .reg (.seq (.seq .reg (.cond (.seq .reg .no) .no)) (.seq .reg .no))))

theorem disk_Read.eq (db : Nat) (do_ : Nat) (file : Int) (H : Heap) (K : Value → Heap → Prop) : vcFun X Tryz.f36 disk_Read.ann [(.pointer (some ⟨db, do_, none⟩)), (.int .i64 file)] H K = disk_Read.code db do_ file H K := by kernel_rfl

theorem disk_Read.call {db : Nat} {do_ : Nat} {file : Int} {H : Heap} {K : Value → Heap → Prop} (h : disk_Read.code db do_ file H K) : CallF Tryz.prog 36 #[(.pointer (some ⟨db, do_, none⟩)), (.int .i64 file)] H K :=
  callF_of_eq (X := X) X_P X_wide X_bodied Tryz.func36 (disk_Read.eq db do_ file H K) h

def Agree.r1 (K : Value → Heap → Prop) (Inv : Int → Heap → Prop) (mu : Int → Heap → Nat) (i : Int) (H_2 : Heap) (t68 : Bool) (H_4 : Heap) : Prop :=
  ((t68) = true →
  K (.bool false) H_4) ∧
  ((t68) = false →
  Inv (IntKind.i64.wrap (i + 1)) H_4 ∧ mu (IntKind.i64.wrap (i + 1)) H_4 < mu i H_2)

def Agree.l2 (db : Nat) (do_ : Nat) (rb : Nat) (ro : Nat) (K : Value → Heap → Prop) (ra : Option Addr) (rn : Nat) (Inv : Int → Heap → Prop) (mu : Int → Heap → Nat) (i : Int) (H_2 : Heap) : Prop :=
  (((decide (i < (rn : Int)))) = true →
  ((0 : Int) ≤ i ∧ i < (rn : Int)) ∧ ∃ b o : Nat, (ra = some ⟨b, o, none⟩) ∧
  ∃ v : Int, cellAt H_2 b (o + i.toNat) = some (.int .i64 v) ∧
  CallF Tryz.prog 36 #[(.pointer (some ⟨db, do_, none⟩)), (.int .i64 v)] H_2 fun u1 H_3 => ∃ ra1 : Option Addr, ∃ rn1 : Nat, ∃ rc1 : Nat, ∃ r : Int, u1 = (.tuple #[(.slice ra1 rn1 rc1), (.int .i64 r)]) ∧
  ∀ Jn1 : Bool → Heap → Prop, (∀ (t68 : Bool), ∀ H_4 : Heap, Agree.r1 K Inv mu i H_2 t68 H_4 → Jn1 t68 H_4) →
  (((!decide (r = 0)) = false) → ((0 : Int) ≤ i ∧ i < (rn : Int))) ∧ ∃ b1 o1 : Nat, (((!decide (r = 0)) = false) → (ra = some ⟨b1, o1, none⟩)) ∧
  ∃ v1 : Int, (((!decide (r = 0)) = false) → cellAt H_3 b1 (o1 + i.toNat) = some (.int .i64 v1)) ∧
  (((!decide (r = 0)) = false) →
  CallF Tryz.prog 37 #[(.pointer (some ⟨rb, ro, none⟩)), (.int .i64 v1)] H_3 fun u2 H_5 => ∃ ra2 : Option Addr, ∃ rn2 : Nat, ∃ rc2 : Nat, u2 = (.slice ra2 rn2 rc2) ∧
  ∃ r1 : Bool, CallQ Tryz.prog 18 #[(.slice ra1 rn1 rc1), (.slice ra2 rn2 rc2)] H_5 (.bool r1) ∧
  Jn1 (!r1) H_5) ∧
  (¬ ((!decide (r = 0)) = false) →
  Jn1 true H_3)) ∧
  (((decide (i < (rn : Int)))) = false →
  K (.bool true) H_2)

def Agree.r3 (db : Nat) (do_ : Nat) (rb : Nat) (ro : Nat) (K : Value → Heap → Prop) (ra : Option Addr) (rn : Nat) (t40 : Bool) (H_1 : Heap) : Prop :=
  ((t40) = true →
  K (.bool false) H_1) ∧
  ((t40) = false →
  ∃ (Inv : Int → Heap → Prop) (mu : Int → Heap → Nat), Inv 0 H_1 ∧
  ∀ (i : Int), ∀ H_2 : Heap, Inv i H_2 → Agree.l2 db do_ rb ro K ra rn Inv mu i H_2)

def Agree.code (db : Nat) (do_ : Nat) (rb : Nat) (ro : Nat) (H : Heap) (K : Value → Heap → Prop) : Prop :=
  CallF Tryz.prog 31 #[(.pointer (some ⟨rb, ro, none⟩))] H fun u H_ => ∃ ra : Option Addr, ∃ rn : Nat, ∃ rc : Nat, u = (.slice ra rn rc) ∧
  ∀ Jn : Bool → Heap → Prop, (∀ (t40 : Bool), ∀ H_1 : Heap, Agree.r3 db do_ rb ro K ra rn t40 H_1 → Jn t40 H_1) →
  CallF Tryz.prog 33 #[(.pointer (some ⟨db, do_, none⟩))] H_ fun u3 H_6 => ∃ ra3 : Option Addr, ∃ rn3 : Nat, ∃ rc3 : Nat, u3 = (.slice ra3 rn3 rc3) ∧
  ∃ r2 : Bool, CallQ Tryz.prog 32 #[(.slice ra3 rn3 rc3), (.slice ra rn rc)] H_6 (.bool r2) ∧
  (((!r2) = false) → True) ∧
  ∃ va : Option Addr, ∃ vn : Nat, ∃ vc : Nat, (((!r2) = false) → cellAt H_6 rb ro = some (.slice va vn vc)) ∧
  (((!r2) = false) → True) ∧
  ∃ v2 : Int, (((!r2) = false) → cellAt H_6 rb (ro + 1) = some (.int .i64 v2)) ∧
  (((!r2) = false) →
  CallF Tryz.prog 34 #[(.pointer (some ⟨db, do_, none⟩))] H_6 fun u4 H_7 => ∃ r3 : Int, u4 = (.int .i64 r3) ∧
  (((!r2) = false) → cellAt H_7 rb (ro + 1) = some (.int .i64 v2)) ∧
  (((!r2) = false) → cellAt H_7 rb ro = some (.slice va vn vc)) ∧
  (((!decide (r3 = (IntKind.i64.wrap ((vn : Int) - v2)))) = false) → True) ∧
  ∃ va1 : Option Addr, ∃ vn1 : Nat, ∃ vc1 : Nat, (((!decide (r3 = (IntKind.i64.wrap ((vn : Int) - v2)))) = false) → cellAt H_7 rb ro = some (.slice va1 vn1 vc1)) ∧
  (((!decide (r3 = (IntKind.i64.wrap ((vn : Int) - v2)))) = false) →
  CallF Tryz.prog 35 #[(.pointer (some ⟨db, do_, none⟩))] H_7 fun u5 H_8 => ∃ r4 : Int, u5 = (.int .i64 r4) ∧
  (((!decide (r3 = (IntKind.i64.wrap ((vn : Int) - v2)))) = false) → cellAt H_8 rb ro = some (.slice va1 vn1 vc1)) ∧
  Jn (!decide (r4 = (vn1 : Int))) H_8) ∧
  (¬ ((!decide (r3 = (IntKind.i64.wrap ((vn : Int) - v2)))) = false) →
  (((!decide (r3 = (IntKind.i64.wrap ((vn : Int) - v2)))) = false) → cellAt H_7 rb ro = some (.slice va1 vn1 vc1)) ∧
  Jn true H_7)) ∧
  (¬ ((!r2) = false) →
  (((!r2) = false) → cellAt H_6 rb (ro + 1) = some (.int .i64 v2)) ∧
  (((!r2) = false) → cellAt H_6 rb ro = some (.slice va vn vc)) ∧
  ((true = false) → True) ∧
  ∃ va2 : Option Addr, ∃ vn2 : Nat, ∃ vc2 : Nat, ((true = false) → cellAt H_6 rb ro = some (.slice va2 vn2 vc2)) ∧
  ((true = false) →
  CallF Tryz.prog 35 #[(.pointer (some ⟨db, do_, none⟩))] H_6 fun u6 H_9 => ∃ r5 : Int, u6 = (.int .i64 r5) ∧
  ((true = false) → cellAt H_9 rb ro = some (.slice va2 vn2 vc2)) ∧
  Jn (!decide (r5 = (vn2 : Int))) H_9) ∧
  (¬ (true = false) →
  ((true = false) → cellAt H_6 rb ro = some (.slice va2 vn2 vc2)) ∧
  Jn true H_6))

def Agree.ann : Ann := (.seq .reg (.seq .reg (.seq (.seq (.regJ [(40, .one (.bool))]) (.cond (.seq .reg .no) .no)) (.seq (.seq .reg (.blk (.loop [(6, .one (.int .i64))] (.seq (.seq .reg (.cond .no .no)) (.seq (.blk (.seq .reg (.seq (.regJ [(68, .one (.bool))]) (.cond (.seq .reg .no) .no)))) .reg))))) (.seq .reg .no)))))

theorem Agree.eq (db : Nat) (do_ : Nat) (rb : Nat) (ro : Nat) (H : Heap) (K : Value → Heap → Prop) : vcFun X Tryz.f10 Agree.ann [(.pointer (some ⟨db, do_, none⟩)), (.pointer (some ⟨rb, ro, none⟩))] H K = Agree.code db do_ rb ro H K := by kernel_rfl

theorem Agree.call {db : Nat} {do_ : Nat} {rb : Nat} {ro : Nat} {H : Heap} {K : Value → Heap → Prop} (h : Agree.code db do_ rb ro H K) : CallF Tryz.prog 10 #[(.pointer (some ⟨db, do_, none⟩)), (.pointer (some ⟨rb, ro, none⟩))] H K :=
  callF_of_eq (X := X) X_P X_wide X_bodied Tryz.func10 (Agree.eq db do_ rb ro H K) h

def disk_New.code  (H : Heap) (K : Value → Heap → Prop) : Prop :=
  ∀ (b : Nat) (H_ : Heap), b = H.size → H_ = H.push (.map #[] 0) →
  ∀ (b1 : Nat) (H_1 : Heap), b1 = H_.size → H_1 = H_.push (.cells #[(.map (some b)), (.slice none 0 0)] 68) →
  K (.pointer (some ⟨b1, 0, none⟩)) H_1

def disk_New.ann : Ann := (.seq .reg (.seq .reg .no))

theorem disk_New.eq  (H : Heap) (K : Value → Heap → Prop) : vcFun X Tryz.f6 disk_New.ann [] H K = disk_New.code  H K := by kernel_rfl

theorem disk_New.call  {H : Heap} {K : Value → Heap → Prop} (h : disk_New.code  H K) : CallF Tryz.prog 6 #[] H K :=
  callF_of_eq (X := X) X_P X_wide X_bodied Tryz.func6 (disk_New.eq  H K) h

end Go.Proofs.YtomdcdfcdeaabaaGreat
