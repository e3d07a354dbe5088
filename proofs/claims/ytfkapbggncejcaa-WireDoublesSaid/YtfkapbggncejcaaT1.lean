import Derived.Test.YtfkapbggncejcaaE9
import Derived.Test.YtfkapbggncejcaaProg
import Derived.KernelRfl
set_option maxRecDepth 100000
set_option linter.unusedVariables false
namespace Go.Proofs.Ytfkapbggncejcaa
open Go Go.Nm Go.Proofs
noncomputable def X : Ctx := { P := Try.prog, quiet := [6, 17, 19, 21, 33], calls := [2, 3, 4, 5, 6, 7, 8, 9, 10, 11, 12, 13, 14, 15, 16, 17, 18, 19, 20, 21, 22, 23, 24, 25, 26, 27, 28, 29, 30, 31, 32, 33, 34, 35, 36, 37, 38, 39, 40, 41, 42, 43, 44, 45, 46, 47, 48, 49, 50, 51, 52, 53, 54] }
theorem X_P : X.P = Try.prog := rfl
theorem X_wide : X.P.follows .mixedOrders = true := by kernel_rfl
theorem X_all : X.calls.all (bodiedB X.P) = true := by kernel_rfl
theorem X_bodied : ∀ f, memN f X.calls = true → Bodied X.P f := bodied_all X_all

def R26_Wire_Has.code (wb : Nat) (wo : Nat) (n : Int) (H : Heap) (K : Value → Heap → Prop) : Prop :=
  (((decide (0 ≤ n)) = true) → True) ∧
  ∃ va : Option Addr, ∃ vn : Nat, ∃ vc : Nat, (((decide (0 ≤ n)) = true) → cellAt H wb (wo + 1) = some (.slice va vn vc)) ∧
  ((((decide (0 ≤ n)) && (decide (n < (vn : Int)))) = true) → True) ∧
  ∃ va1 : Option Addr, ∃ vn1 : Nat, ∃ vc1 : Nat, ((((decide (0 ≤ n)) && (decide (n < (vn : Int)))) = true) → cellAt H wb (wo + 1) = some (.slice va1 vn1 vc1)) ∧
  ((((decide (0 ≤ n)) && (decide (n < (vn : Int)))) = true) → ((0 : Int) ≤ n ∧ n < (vn1 : Int))) ∧ ∃ b o : Nat, ((((decide (0 ≤ n)) && (decide (n < (vn : Int)))) = true) → (va1 = some ⟨b, o, none⟩)) ∧
  ∃ v : Bool, ((((decide (0 ≤ n)) && (decide (n < (vn : Int)))) = true) → cellAt H b (o + n.toNat * 5 + 4) = some (.bool v)) ∧
  K (.bool (((decide (0 ≤ n)) && (decide (n < (vn : Int)))) && v)) H

def R26_Wire_Has.ann : Ann := (.seq .reg (.seq .reg .no))

theorem R26_Wire_Has.eq (wb : Nat) (wo : Nat) (n : Int) (H : Heap) (K : Value → Heap → Prop) : vcFun X Try.f33 R26_Wire_Has.ann [(.pointer (some ⟨wb, wo, none⟩)), (.int .i64 n)] H K = R26_Wire_Has.code wb wo n H K := by kernel_rfl

theorem R26_Wire_Has.call {wb : Nat} {wo : Nat} {n : Int} {H : Heap} {K : Value → Heap → Prop} (h : R26_Wire_Has.code wb wo n H K) : CallF Try.prog 33 #[(.pointer (some ⟨wb, wo, none⟩)), (.int .i64 n)] H K :=
  callF_of_eq (X := X) X_P X_wide X_bodied Try.func33 (R26_Wire_Has.eq wb wo n H K) h

def R26_Wire_Flying.r1 (Inv : (Option Addr) → Nat → Nat → Int → Heap → Prop) (mu : (Option Addr) → Nat → Nat → Int → Heap → Nat) (outa : Option Addr) (outn : Nat) (outc : Nat) (i : Int) (H_1 : Heap) (outa1 : Option Addr) (outn1 : Nat) (outc1 : Nat) (H_2 : Heap) : Prop :=
  Inv outa1 outn1 outc1 (IntKind.i64.wrap (i + 1)) H_2 ∧ mu outa1 outn1 outc1 (IntKind.i64.wrap (i + 1)) H_2 < mu outa outn outc i H_1

def R26_Wire_Flying.l2 (wb : Nat) (wo : Nat) (K : Value → Heap → Prop) (Inv : (Option Addr) → Nat → Nat → Int → Heap → Prop) (mu : (Option Addr) → Nat → Nat → Int → Heap → Nat) (outa : Option Addr) (outn : Nat) (outc : Nat) (i : Int) (H_1 : Heap) : Prop :=
  ∃ va : Option Addr, ∃ vn : Nat, ∃ vc : Nat, cellAt H_1 wb (wo + 1) = some (.slice va vn vc) ∧
  (((decide (i < (vn : Int)))) = true →
  ∃ va1 : Option Addr, ∃ vn1 : Nat, ∃ vc1 : Nat, cellAt H_1 wb (wo + 1) = some (.slice va1 vn1 vc1) ∧
  ((0 : Int) ≤ i ∧ i < (vn1 : Int)) ∧ ∃ b1 o : Nat, (va1 = some ⟨b1, o, none⟩) ∧
  ∃ v : Bool, cellAt H_1 b1 (o + i.toNat * 5 + 4) = some (.bool v) ∧
  ∀ Jn : (Option Addr) → Nat → Nat → Heap → Prop, (∀ (outa1 : Option Addr) (outn1 : Nat) (outc1 : Nat), ∀ H_2 : Heap, R26_Wire_Flying.r1 Inv mu outa outn outc i H_1 outa1 outn1 outc1 H_2 → Jn outa1 outn1 outc1 H_2) →
  ((v) = true →
  ∀ (b2 : Nat) (H_3 : Heap), b2 = H_1.size → H_3 = H_1.push (.cells #[(.int .i64 i)] 2) →
  RunW Try.prog (Builtin.append_ #[46, 46] 46 #[(.slice outa outn outc), (.slice (some ⟨b2, 0, none⟩) 1 1)]) H_3 fun u H_4 =>
  ∃ sa : Option Addr, ∃ sn : Nat, ∃ sc : Nat, u = (.slice sa sn sc) ∧
  Jn sa sn sc H_4) ∧
  ((v) = false →
  Jn outa outn outc H_1)) ∧
  (((decide (i < (vn : Int)))) = false →
  K (.slice outa outn outc) H_1)

def R26_Wire_Flying.code (wb : Nat) (wo : Nat) (H : Heap) (K : Value → Heap → Prop) : Prop :=
  ∀ (b : Nat) (H_ : Heap), b = H.size → H_ = H.push (.cells #[] 2) →
  ∃ (Inv : (Option Addr) → Nat → Nat → Int → Heap → Prop) (mu : (Option Addr) → Nat → Nat → Int → Heap → Nat), Inv (some ⟨b, 0, none⟩) 0 0 0 H_ ∧
  ∀ (outa : Option Addr) (outn : Nat) (outc : Nat) (i : Int), ∀ H_1 : Heap, Inv outa outn outc i H_1 → R26_Wire_Flying.l2 wb wo K Inv mu outa outn outc i H_1

def R26_Wire_Flying.ann : Ann := (.seq .reg (.seq .reg (.seq (.seq .reg (.blk (.loop [(3, .one (.slice)), (4, .one (.int .i64))] (.seq (.seq .reg (.cond .no .no)) (.seq (.blk (.seq .reg (.condJ [(3, .one (.slice))] .reg .no))) .reg))))) (.seq .reg .no))))

theorem R26_Wire_Flying.eq (wb : Nat) (wo : Nat) (H : Heap) (K : Value → Heap → Prop) : vcFun X Try.f32 R26_Wire_Flying.ann [(.pointer (some ⟨wb, wo, none⟩))] H K = R26_Wire_Flying.code wb wo H K := by kernel_rfl

theorem R26_Wire_Flying.call {wb : Nat} {wo : Nat} {H : Heap} {K : Value → Heap → Prop} (h : R26_Wire_Flying.code wb wo H K) : CallF Try.prog 32 #[(.pointer (some ⟨wb, wo, none⟩))] H K :=
  callF_of_eq (X := X) X_P X_wide X_bodied Try.func32 (R26_Wire_Flying.eq wb wo H K) h

def bytes_Clone.code (ba : Option Addr) (bn : Nat) (bc : Nat) (H : Heap) (K : Value → Heap → Prop) : Prop :=
  ((ba.isNone) = true →
  K (.slice none 0 0) H) ∧
  ((ba.isNone) = false →
  ∀ (b : Nat) (H_ : Heap), b = H.size → H_ = H.push (.cells #[] 5) →
  RunW Try.prog (Builtin.append_ #[35, 35] 35 #[(.slice (some ⟨b, 0, none⟩) 0 0), (.slice ba bn bc)]) H_ fun u H_1 =>
  ∃ sa : Option Addr, ∃ sn : Nat, ∃ sc : Nat, u = (.slice sa sn sc) ∧
  K (.slice sa sn sc) H_1)

def bytes_Clone.ann : Ann := (.seq .reg (.seq (.seq .reg (.cond (.seq .reg .no) .no)) (.seq .reg .no)))

theorem bytes_Clone.eq (ba : Option Addr) (bn : Nat) (bc : Nat) (H : Heap) (K : Value → Heap → Prop) : vcFun X Try.f29 bytes_Clone.ann [(.slice ba bn bc)] H K = bytes_Clone.code ba bn bc H K := by kernel_rfl

theorem bytes_Clone.call {ba : Option Addr} {bn : Nat} {bc : Nat} {H : Heap} {K : Value → Heap → Prop} (h : bytes_Clone.code ba bn bc H K) : CallF Try.prog 29 #[(.slice ba bn bc)] H K :=
  callF_of_eq (X := X) X_P X_wide X_bodied Try.func29 (bytes_Clone.eq ba bn bc H K) h

def R26_Wire_Double.code (wb : Nat) (wo : Nat) (n : Int) (H : Heap) (K : Value → Heap → Prop) : Prop :=
  ∃ r : Bool, CallQ Try.prog 33 #[(.pointer (some ⟨wb, wo, none⟩)), (.int .i64 n)] H (.bool r) ∧
  (((!r)) = true →
  K (.tuple #[(.int .i64 (-1)), (.int .i64 19)]) H) ∧
  (((!r)) = false →
  ∃ va : Option Addr, ∃ vn : Nat, ∃ vc : Nat, cellAt H wb (wo + 1) = some (.slice va vn vc) ∧
  ((0 : Int) ≤ n ∧ n < (vn : Int)) ∧ ∃ b o : Nat, (va = some ⟨b, o, none⟩) ∧
  ∃ c0 : Bool, ∃ c1 : Int, ∃ c2 : Int, ∃ c3a : Option Addr, ∃ c3n : Nat, ∃ c3c : Nat, cellsAre H b (o + n.toNat * 5) [(.bool c0), (.int .i64 c1), (.int .i64 c2), (.slice c3a c3n c3c)] ∧
  ∀ (b1 : Nat) (H_ : Heap), b1 = H.size → H_ = H.push (.cells #[(.bool c0), (.int .i64 c1), (.int .i64 c2), (.slice c3a c3n c3c)] 42) →
  CallF Try.prog 25 #[(.pointer (some ⟨wb, wo, none⟩)), (.slice (some ⟨b1, 0, none⟩) 1 1)] H_ fun u H_1 => ∃ r1 : Int, ∃ r2 : Int, u = (.tuple #[(.int .i64 r1), (.int .i64 r2)]) ∧
  K (.tuple #[(.int .i64 r1), (.int .i64 r2)]) H_1)

def R26_Wire_Double.ann : Ann := (.seq .reg (.seq (.seq .reg (.cond (.seq .reg .no) .no)) (.seq .reg .no)))

theorem R26_Wire_Double.eq (wb : Nat) (wo : Nat) (n : Int) (H : Heap) (K : Value → Heap → Prop) : vcFun X Try.f27 R26_Wire_Double.ann [(.pointer (some ⟨wb, wo, none⟩)), (.int .i64 n)] H K = R26_Wire_Double.code wb wo n H K := by kernel_rfl

theorem R26_Wire_Double.call {wb : Nat} {wo : Nat} {n : Int} {H : Heap} {K : Value → Heap → Prop} (h : R26_Wire_Double.code wb wo n H K) : CallF Try.prog 27 #[(.pointer (some ⟨wb, wo, none⟩)), (.int .i64 n)] H K :=
  callF_of_eq (X := X) X_P X_wide X_bodied Try.func27 (R26_Wire_Double.eq wb wo n H K) h

def R26_Wire_Take.code (wb : Nat) (wo : Nat) (n : Int) (H : Heap) (K : Value → Heap → Prop) : Prop :=
  ∀ (b : Nat) (H_ : Heap), b = H.size → H_ = H.push (.cells #[(.bool false), (.int .i64 0), (.int .i64 0), (.slice none 0 0)] 42) →
  ∃ r : Bool, CallQ Try.prog 33 #[(.pointer (some ⟨wb, wo, none⟩)), (.int .i64 n)] H_ (.bool r) ∧
  (((!r)) = true →
  canSet H_ b 0 [(.bool false), (.int .i64 0), (.int .i64 0), (.slice none 0 0)] ∧
  ∀ H_1 : Heap, H_1 = setAll H_ b 0 [(.bool false), (.int .i64 0), (.int .i64 0), (.slice none 0 0)] →
  ∃ res0 : Bool, ∃ res1 : Int, ∃ res2 : Int, ∃ res3a : Option Addr, ∃ res3n : Nat, ∃ res3c : Nat, cellsAre H_1 b 0 [(.bool res0), (.int .i64 res1), (.int .i64 res2), (.slice res3a res3n res3c)] ∧
  K (.tuple #[(.agg #[(.bool res0), (.int .i64 res1), (.int .i64 res2), (.slice res3a res3n res3c)]), (.int .i64 19)]) H_1) ∧
  (((!r)) = false →
  ∃ va : Option Addr, ∃ vn : Nat, ∃ vc : Nat, cellAt H_ wb (wo + 1) = some (.slice va vn vc) ∧
  ((0 : Int) ≤ n ∧ n < (vn : Int)) ∧ ∃ b1 o : Nat, (va = some ⟨b1, o, none⟩) ∧
  canSet H_ b1 (o + n.toNat * 5 + 4) [(.bool false)] ∧
  ∀ H_2 : Heap, H_2 = setAll H_ b1 (o + n.toNat * 5 + 4) [(.bool false)] →
  ∃ va1 : Option Addr, ∃ vn1 : Nat, ∃ vc1 : Nat, cellAt H_2 wb (wo + 1) = some (.slice va1 vn1 vc1) ∧
  ((0 : Int) ≤ n ∧ n < (vn1 : Int)) ∧ ∃ b2 o1 : Nat, (va1 = some ⟨b2, o1, none⟩) ∧
  ∃ c0 : Bool, ∃ c1 : Int, ∃ c2 : Int, ∃ c3a : Option Addr, ∃ c3n : Nat, ∃ c3c : Nat, cellsAre H_2 b2 (o1 + n.toNat * 5) [(.bool c0), (.int .i64 c1), (.int .i64 c2), (.slice c3a c3n c3c)] ∧
  canSet H_2 b 0 [(.bool c0), (.int .i64 c1), (.int .i64 c2), (.slice c3a c3n c3c)] ∧
  ∀ H_3 : Heap, H_3 = setAll H_2 b 0 [(.bool c0), (.int .i64 c1), (.int .i64 c2), (.slice c3a c3n c3c)] →
  ∃ res0_1 : Bool, ∃ res1_1 : Int, ∃ res2_1 : Int, ∃ res3a1 : Option Addr, ∃ res3n1 : Nat, ∃ res3c1 : Nat, cellsAre H_3 b 0 [(.bool res0_1), (.int .i64 res1_1), (.int .i64 res2_1), (.slice res3a1 res3n1 res3c1)] ∧
  K (.tuple #[(.agg #[(.bool res0_1), (.int .i64 res1_1), (.int .i64 res2_1), (.slice res3a1 res3n1 res3c1)]), (.int .i64 0)]) H_3)

def R26_Wire_Take.ann : Ann := (.seq .reg (.seq (.seq .reg (.cond (.seq .reg .no) .no)) (.seq .reg (.seq .reg .no))))

theorem R26_Wire_Take.eq (wb : Nat) (wo : Nat) (n : Int) (H : Heap) (K : Value → Heap → Prop) : vcFun X Try.f26 R26_Wire_Take.ann [(.pointer (some ⟨wb, wo, none⟩)), (.int .i64 n)] H K = R26_Wire_Take.code wb wo n H K := by kernel_rfl

theorem R26_Wire_Take.call {wb : Nat} {wo : Nat} {n : Int} {H : Heap} {K : Value → Heap → Prop} (h : R26_Wire_Take.code wb wo n H K) : CallF Try.prog 26 #[(.pointer (some ⟨wb, wo, none⟩)), (.int .i64 n)] H K :=
  callF_of_eq (X := X) X_P X_wide X_bodied Try.func26 (R26_Wire_Take.eq wb wo n H K) h

def R26_Wire_Put.l1 (wb : Nat) (wo : Nat) (lista : Option Addr) (listn : Nat) (K : Value → Heap → Prop) (vn : Nat) (Inv1 : Int → Heap → Prop) (mu1 : Int → Heap → Nat) (i1 : Int) (H_4 : Heap) : Prop :=
  (((decide (i1 < (listn : Int)))) = true →
  ((0 : Int) ≤ i1 ∧ i1 < (listn : Int)) ∧ ∃ b2 o1 : Nat, (lista = some ⟨b2, o1, none⟩) ∧
  ∃ c0_1 : Bool, ∃ c1_1 : Int, ∃ c2_1 : Int, ∃ c3a1 : Option Addr, ∃ c3n1 : Nat, ∃ c3c1 : Nat, cellsAre H_4 b2 (o1 + i1.toNat * 4) [(.bool c0_1), (.int .i64 c1_1), (.int .i64 c2_1), (.slice c3a1 c3n1 c3c1)] ∧
  ∀ (b3 : Nat) (H_5 : Heap), b3 = H_4.size → H_5 = H_4.push (.cells #[(.bool false), (.int .i64 0), (.int .i64 0), (.slice none 0 0)] 42) →
  canSet H_5 b3 0 [(.bool c0_1), (.int .i64 c1_1), (.int .i64 c2_1), (.slice c3a1 c3n1 c3c1)] ∧
  ∀ H_6 : Heap, H_6 = setAll H_5 b3 0 [(.bool c0_1), (.int .i64 c1_1), (.int .i64 c2_1), (.slice c3a1 c3n1 c3c1)] →
  ∀ (b4 : Nat) (H_7 : Heap), b4 = H_6.size → H_7 = H_6.push (.cells #[] 5) →
  ∃ va1 : Option Addr, ∃ vn1 : Nat, ∃ vc1 : Nat, cellAt H_7 b3 3 = some (.slice va1 vn1 vc1) ∧
  RunW Try.prog (Builtin.append_ #[35, 35] 35 #[(.slice (some ⟨b4, 0, none⟩) 0 0), (.slice va1 vn1 vc1)]) H_7 fun u1 H_8 =>
  ∃ sa : Option Addr, ∃ sn : Nat, ∃ sc : Nat, u1 = (.slice sa sn sc) ∧
  canSet H_8 b3 3 [(.slice sa sn sc)] ∧
  ∀ H_9 : Heap, H_9 = setAll H_8 b3 3 [(.slice sa sn sc)] →
  ∃ va2 : Option Addr, ∃ vn2 : Nat, ∃ vc2 : Nat, cellAt H_9 wb (wo + 1) = some (.slice va2 vn2 vc2) ∧
  ∃ c0_2 : Bool, ∃ c1_2 : Int, ∃ c2_2 : Int, ∃ c3a2 : Option Addr, ∃ c3n2 : Nat, ∃ c3c2 : Nat, cellsAre H_9 b3 0 [(.bool c0_2), (.int .i64 c1_2), (.int .i64 c2_2), (.slice c3a2 c3n2 c3c2)] ∧
  ∀ (b5 : Nat) (H_10 : Heap), b5 = H_9.size → H_10 = H_9.push (.cells #[(.bool c0_2), (.int .i64 c1_2), (.int .i64 c2_2), (.slice c3a2 c3n2 c3c2), (.bool true)] 75) →
  cellAt H_10 wb (wo + 1) = some (.slice va2 vn2 vc2) ∧
  RunW Try.prog (Builtin.append_ #[51, 51] 51 #[(.slice va2 vn2 vc2), (.slice (some ⟨b5, 0, none⟩) 1 1)]) H_10 fun u2 H_11 =>
  ∃ sa1 : Option Addr, ∃ sn1 : Nat, ∃ sc1 : Nat, u2 = (.slice sa1 sn1 sc1) ∧
  canSet H_11 wb (wo + 1) [(.slice sa1 sn1 sc1)] ∧
  ∀ H_12 : Heap, H_12 = setAll H_11 wb (wo + 1) [(.slice sa1 sn1 sc1)] →
  Inv1 (IntKind.i64.wrap (i1 + 1)) H_12 ∧ mu1 (IntKind.i64.wrap (i1 + 1)) H_12 < mu1 i1 H_4) ∧
  (((decide (i1 < (listn : Int)))) = false →
  K (.tuple #[(.int .i64 (vn : Int)), (.int .i64 0)]) H_4)

def R26_Wire_Put.l2 (wb : Nat) (wo : Nat) (lista : Option Addr) (listn : Nat) (K : Value → Heap → Prop) (Inv : Int → Heap → Prop) (mu : Int → Heap → Nat) (i : Int) (H_ : Heap) : Prop :=
  (((decide (i < (listn : Int)))) = true →
  ((0 : Int) ≤ i ∧ i < (listn : Int)) ∧ ∃ b o : Nat, (lista = some ⟨b, o, none⟩) ∧
  ∃ c0 : Bool, ∃ c1 : Int, ∃ c2 : Int, ∃ c3a : Option Addr, ∃ c3n : Nat, ∃ c3c : Nat, cellsAre H_ b (o + i.toNat * 4) [(.bool c0), (.int .i64 c1), (.int .i64 c2), (.slice c3a c3n c3c)] ∧
  ∀ (b1 : Nat) (H_1 : Heap), b1 = H_.size → H_1 = H_.push (.cells #[(.bool false), (.int .i64 0), (.int .i64 0), (.slice none 0 0)] 42) →
  canSet H_1 b1 0 [(.bool c0), (.int .i64 c1), (.int .i64 c2), (.slice c3a c3n c3c)] ∧
  ∀ H_2 : Heap, H_2 = setAll H_1 b1 0 [(.bool c0), (.int .i64 c1), (.int .i64 c2), (.slice c3a c3n c3c)] →
  ∃ v : Int, cellAt H_2 b1 1 = some (.int .i64 v) ∧
  ∃ v1 : Int, (((decide (v < 0)) = false) → cellAt H_2 b1 1 = some (.int .i64 v1)) ∧
  ∃ v2 : Int, ((((decide (v < 0)) || (decide (63 < v1))) = false) → cellAt H_2 b1 2 = some (.int .i64 v2)) ∧
  ∃ v3 : Int, (((((decide (v < 0)) || (decide (63 < v1))) || (decide (v2 < 0))) = false) → cellAt H_2 b1 2 = some (.int .i64 v3)) ∧
  ((((((decide (v < 0)) || (decide (63 < v1))) || (decide (v2 < 0))) || (decide (4611686018427387903 < v3)))) = true →
  K (.tuple #[(.int .i64 (-1)), (.int .i64 10)]) H_2) ∧
  ((((((decide (v < 0)) || (decide (63 < v1))) || (decide (v2 < 0))) || (decide (4611686018427387903 < v3)))) = false →
  Inv (IntKind.i64.wrap (i + 1)) H_2 ∧ mu (IntKind.i64.wrap (i + 1)) H_2 < mu i H_)) ∧
  (((decide (i < (listn : Int)))) = false →
  ∃ v4 : Int, cellAt H_ wb wo = some (.int .i64 v4) ∧
  CallF Try.prog 32 #[(.pointer (some ⟨wb, wo, none⟩))] H_ fun u H_3 => ∃ ra : Option Addr, ∃ rn : Nat, ∃ rc : Nat, u = (.slice ra rn rc) ∧
  cellAt H_3 wb wo = some (.int .i64 v4) ∧
  (((decide (v4 < (IntKind.i64.wrap ((rn : Int) + (listn : Int)))))) = true →
  K (.tuple #[(.int .i64 (-1)), (.int .i64 20)]) H_3) ∧
  (((decide (v4 < (IntKind.i64.wrap ((rn : Int) + (listn : Int)))))) = false →
  ∃ va : Option Addr, ∃ vn : Nat, ∃ vc : Nat, cellAt H_3 wb (wo + 1) = some (.slice va vn vc) ∧
  ∃ (Inv1 : Int → Heap → Prop) (mu1 : Int → Heap → Nat), Inv1 0 H_3 ∧
  ∀ (i1 : Int), ∀ H_4 : Heap, Inv1 i1 H_4 → R26_Wire_Put.l1 wb wo lista listn K vn Inv1 mu1 i1 H_4))

def R26_Wire_Put.code (wb : Nat) (wo : Nat) (lista : Option Addr) (listn : Nat) (listc : Nat) (H : Heap) (K : Value → Heap → Prop) : Prop :=
  ∃ (Inv : Int → Heap → Prop) (mu : Int → Heap → Nat), Inv 0 H ∧
  ∀ (i : Int), ∀ H_ : Heap, Inv i H_ → R26_Wire_Put.l2 wb wo lista listn K Inv mu i H_

def R26_Wire_Put.ann : Ann := (.seq .reg (.seq (.seq .reg (.blk (.loop [(6, .one (.int .i64))] (.seq (.seq .reg (.cond .no .no)) (.seq (.blk (.seq .reg (.seq .reg (.cond (.seq .reg .no) .no)))) .reg))))) (.seq (.seq .reg (.cond (.seq .reg .no) .no)) (.seq .reg (.seq (.seq .reg (.blk (.loop [(9, .one (.int .i64))] (.seq (.seq .reg (.cond .no .no)) (.seq (.blk (.seq .reg (.seq .reg .reg))) .reg))))) (.seq .reg .no))))))

theorem R26_Wire_Put.eq (wb : Nat) (wo : Nat) (lista : Option Addr) (listn : Nat) (listc : Nat) (H : Heap) (K : Value → Heap → Prop) : vcFun X Try.f25 R26_Wire_Put.ann [(.pointer (some ⟨wb, wo, none⟩)), (.slice lista listn listc)] H K = R26_Wire_Put.code wb wo lista listn listc H K := by kernel_rfl

theorem R26_Wire_Put.call {wb : Nat} {wo : Nat} {lista : Option Addr} {listn : Nat} {listc : Nat} {H : Heap} {K : Value → Heap → Prop} (h : R26_Wire_Put.code wb wo lista listn listc H K) : CallF Try.prog 25 #[(.pointer (some ⟨wb, wo, none⟩)), (.slice lista listn listc)] H K :=
  callF_of_eq (X := X) X_P X_wide X_bodied Try.func25 (R26_Wire_Put.eq wb wo lista listn listc H K) h

def CopyBytes.code (ba : Option Addr) (bn : Nat) (bc : Nat) (H : Heap) (K : Value → Heap → Prop) : Prop :=
  ∀ (b : Nat) (H_ : Heap), b = H.size → H_ = H.push (.cells #[] 5) →
  RunW Try.prog (Builtin.append_ #[35, 35] 35 #[(.slice (some ⟨b, 0, none⟩) 0 0), (.slice ba bn bc)]) H_ fun u H_1 =>
  ∃ sa : Option Addr, ∃ sn : Nat, ∃ sc : Nat, u = (.slice sa sn sc) ∧
  K (.slice sa sn sc) H_1

def CopyBytes.ann : Ann := (.seq .reg (.seq .reg .no))

theorem CopyBytes.eq (ba : Option Addr) (bn : Nat) (bc : Nat) (H : Heap) (K : Value → Heap → Prop) : vcFun X Try.f22 CopyBytes.ann [(.slice ba bn bc)] H K = CopyBytes.code ba bn bc H K := by kernel_rfl

theorem CopyBytes.call {ba : Option Addr} {bn : Nat} {bc : Nat} {H : Heap} {K : Value → Heap → Prop} (h : CopyBytes.code ba bn bc H K) : CallF Try.prog 22 #[(.slice ba bn bc)] H K :=
  callF_of_eq (X := X) X_P X_wide X_bodied Try.func22 (CopyBytes.eq ba bn bc H K) h

def SameBytes.l1 (aa : Option Addr) (an : Nat) (ba : Option Addr) (bn : Nat) (K : Value → Heap → Prop) (Inv : Int → Heap → Prop) (mu : Int → Heap → Nat) (i : Int) (H_ : Heap) : Prop :=
  (((decide (i < (an : Int)))) = true →
  ((0 : Int) ≤ i ∧ i < (an : Int)) ∧ ∃ b o : Nat, (aa = some ⟨b, o, none⟩) ∧
  ∃ v : Int, cellAt H_ b (o + i.toNat) = some (.int .u8 v) ∧
  ((0 : Int) ≤ i ∧ i < (bn : Int)) ∧ ∃ b1 o1 : Nat, (ba = some ⟨b1, o1, none⟩) ∧
  ∃ v1 : Int, cellAt H_ b1 (o1 + i.toNat) = some (.int .u8 v1) ∧
  (((!decide (v = v1))) = true →
  K (.bool false) H_) ∧
  (((!decide (v = v1))) = false →
  Inv (IntKind.i64.wrap (i + 1)) H_ ∧ mu (IntKind.i64.wrap (i + 1)) H_ < mu i H_)) ∧
  (((decide (i < (an : Int)))) = false →
  K (.bool true) H_)

def SameBytes.code (aa : Option Addr) (an : Nat) (ac : Nat) (ba : Option Addr) (bn : Nat) (bc : Nat) (H : Heap) (K : Value → Heap → Prop) : Prop :=
  (((!decide ((an : Int) = (bn : Int)))) = true →
  K (.bool false) H) ∧
  (((!decide ((an : Int) = (bn : Int)))) = false →
  ∃ (Inv : Int → Heap → Prop) (mu : Int → Heap → Nat), Inv 0 H ∧
  ∀ (i : Int), ∀ H_ : Heap, Inv i H_ → SameBytes.l1 aa an ba bn K Inv mu i H_)

def SameBytes.ann : Ann := (.seq .reg (.seq (.seq .reg (.cond (.seq .reg .no) .no)) (.seq (.seq .reg (.blk (.loop [(5, .one (.int .i64))] (.seq (.seq .reg (.cond .no .no)) (.seq (.blk (.seq .reg (.cond (.seq .reg .no) .no))) .reg))))) (.seq .reg .no))))

theorem SameBytes.eq (aa : Option Addr) (an : Nat) (ac : Nat) (ba : Option Addr) (bn : Nat) (bc : Nat) (H : Heap) (K : Value → Heap → Prop) : vcFun X Try.f21 SameBytes.ann [(.slice aa an ac), (.slice ba bn bc)] H K = SameBytes.code aa an ac ba bn bc H K := by kernel_rfl

theorem SameBytes.call {aa : Option Addr} {an : Nat} {ac : Nat} {ba : Option Addr} {bn : Nat} {bc : Nat} {H : Heap} {K : Value → Heap → Prop} (h : SameBytes.code aa an ac ba bn bc H K) : CallF Try.prog 21 #[(.slice aa an ac), (.slice ba bn bc)] H K :=
  callF_of_eq (X := X) X_P X_wide X_bodied Try.func21 (SameBytes.eq aa an ac ba bn bc H K) h

def wire_copied.code (p0 : Bool) (p1 : Int) (p2 : Int) (p3a : Option Addr) (p3n : Nat) (p3c : Nat) (H : Heap) (K : Value → Heap → Prop) : Prop :=
  ∀ (b : Nat) (H_ : Heap), b = H.size → H_ = H.push (.cells #[(.bool p0), (.int .i64 p1), (.int .i64 p2), (.slice p3a p3n p3c)] 37) →
  ∀ (b1 : Nat) (H_1 : Heap), b1 = H_.size → H_1 = H_.push (.cells #[(.bool false), (.int .i64 0), (.int .i64 0), (.slice none 0 0)] 37) →
  ∃ va : Option Addr, ∃ vn : Nat, ∃ vc : Nat, cellAt H_1 b 3 = some (.slice va vn vc) ∧
  CallF Try.prog 29 #[(.slice va vn vc)] H_1 fun u H_2 => ∃ ra : Option Addr, ∃ rn : Nat, ∃ rc : Nat, u = (.slice ra rn rc) ∧
  canSet H_2 b 3 [(.slice ra rn rc)] ∧
  ∀ H_3 : Heap, H_3 = setAll H_2 b 3 [(.slice ra rn rc)] →
  ∃ c0 : Bool, ∃ c1 : Int, ∃ c2 : Int, ∃ c3a : Option Addr, ∃ c3n : Nat, ∃ c3c : Nat, cellsAre H_3 b 0 [(.bool c0), (.int .i64 c1), (.int .i64 c2), (.slice c3a c3n c3c)] ∧
  canSet H_3 b1 0 [(.bool c0), (.int .i64 c1), (.int .i64 c2), (.slice c3a c3n c3c)] ∧
  ∀ H_4 : Heap, H_4 = setAll H_3 b1 0 [(.bool c0), (.int .i64 c1), (.int .i64 c2), (.slice c3a c3n c3c)] →
  ∃ res0 : Bool, ∃ res1 : Int, ∃ res2 : Int, ∃ res3a : Option Addr, ∃ res3n : Nat, ∃ res3c : Nat, cellsAre H_4 b1 0 [(.bool res0), (.int .i64 res1), (.int .i64 res2), (.slice res3a res3n res3c)] ∧
  K (.agg #[(.bool res0), (.int .i64 res1), (.int .i64 res2), (.slice res3a res3n res3c)]) H_4

def wire_copied.ann : Ann := (.seq .reg (.seq .reg (.seq .reg .no)))

theorem wire_copied.eq (p0 : Bool) (p1 : Int) (p2 : Int) (p3a : Option Addr) (p3n : Nat) (p3c : Nat) (H : Heap) (K : Value → Heap → Prop) : vcFun X Try.f20 wire_copied.ann [(.agg #[(.bool p0), (.int .i64 p1), (.int .i64 p2), (.slice p3a p3n p3c)])] H K = wire_copied.code p0 p1 p2 p3a p3n p3c H K := by kernel_rfl

theorem wire_copied.call {p0 : Bool} {p1 : Int} {p2 : Int} {p3a : Option Addr} {p3n : Nat} {p3c : Nat} {H : Heap} {K : Value → Heap → Prop} (h : wire_copied.code p0 p1 p2 p3a p3n p3c H K) : CallF Try.prog 20 #[(.agg #[(.bool p0), (.int .i64 p1), (.int .i64 p2), (.slice p3a p3n p3c)])] H K :=
  callF_of_eq (X := X) X_P X_wide X_bodied Try.func20 (wire_copied.eq p0 p1 p2 p3a p3n p3c H K) h

def SameLongs.l1 (aa : Option Addr) (an : Nat) (ba : Option Addr) (bn : Nat) (K : Value → Heap → Prop) (Inv : Int → Heap → Prop) (mu : Int → Heap → Nat) (i : Int) (H_ : Heap) : Prop :=
  (((decide (i < (an : Int)))) = true →
  ((0 : Int) ≤ i ∧ i < (an : Int)) ∧ ∃ b o : Nat, (aa = some ⟨b, o, none⟩) ∧
  ∃ v : Int, cellAt H_ b (o + i.toNat) = some (.int .i64 v) ∧
  ((0 : Int) ≤ i ∧ i < (bn : Int)) ∧ ∃ b1 o1 : Nat, (ba = some ⟨b1, o1, none⟩) ∧
  ∃ v1 : Int, cellAt H_ b1 (o1 + i.toNat) = some (.int .i64 v1) ∧
  (((!decide (v = v1))) = true →
  K (.bool false) H_) ∧
  (((!decide (v = v1))) = false →
  Inv (IntKind.i64.wrap (i + 1)) H_ ∧ mu (IntKind.i64.wrap (i + 1)) H_ < mu i H_)) ∧
  (((decide (i < (an : Int)))) = false →
  K (.bool true) H_)

def SameLongs.code (aa : Option Addr) (an : Nat) (ac : Nat) (ba : Option Addr) (bn : Nat) (bc : Nat) (H : Heap) (K : Value → Heap → Prop) : Prop :=
  (((!decide ((an : Int) = (bn : Int)))) = true →
  K (.bool false) H) ∧
  (((!decide ((an : Int) = (bn : Int)))) = false →
  ∃ (Inv : Int → Heap → Prop) (mu : Int → Heap → Nat), Inv 0 H ∧
  ∀ (i : Int), ∀ H_ : Heap, Inv i H_ → SameLongs.l1 aa an ba bn K Inv mu i H_)

def SameLongs.ann : Ann := (.seq .reg (.seq (.seq .reg (.cond (.seq .reg .no) .no)) (.seq (.seq .reg (.blk (.loop [(5, .one (.int .i64))] (.seq (.seq .reg (.cond .no .no)) (.seq (.blk (.seq .reg (.cond (.seq .reg .no) .no))) .reg))))) (.seq .reg .no))))

theorem SameLongs.eq (aa : Option Addr) (an : Nat) (ac : Nat) (ba : Option Addr) (bn : Nat) (bc : Nat) (H : Heap) (K : Value → Heap → Prop) : vcFun X Try.f19 SameLongs.ann [(.slice aa an ac), (.slice ba bn bc)] H K = SameLongs.code aa an ac ba bn bc H K := by kernel_rfl

theorem SameLongs.call {aa : Option Addr} {an : Nat} {ac : Nat} {ba : Option Addr} {bn : Nat} {bc : Nat} {H : Heap} {K : Value → Heap → Prop} (h : SameLongs.code aa an ac ba bn bc H K) : CallF Try.prog 19 #[(.slice aa an ac), (.slice ba bn bc)] H K :=
  callF_of_eq (X := X) X_P X_wide X_bodied Try.func19 (SameLongs.eq aa an ac ba bn bc H K) h

def wire_Clone.l1 (K : Value → Heap → Prop) (b1 : Nat) (it : Nat) (Inv : Heap → Prop) (mu : Heap → Nat) (H_3 : Heap) : Prop :=
  RunW Try.prog (Instr.next (.pointer (some ⟨it, 0, none⟩)) false 0) H_3 fun u1 H_4 =>
  (u1 = (.tuple #[(.bool false)]) ∧
  ((false) = true →
  ∃ k : Int, ∃ x0 : Bool, ∃ x1 : Int, ∃ x2 : Int, ∃ x3a : Option Addr, ∃ x3n : Nat, ∃ x3c : Nat, ReadRun Try.prog (Instr.entry (.pointer (some ⟨it, 0, none⟩))) H_4 (.tuple #[(.int .i64 k), (.agg #[(.bool x0), (.int .i64 x1), (.int .i64 x2), (.slice x3a x3n x3c)])]) ∧
  ∀ (b2 : Nat) (H_5 : Heap), b2 = H_4.size → H_5 = H_4.push (.cells #[(.bool false), (.int .i64 0), (.int .i64 0), (.slice none 0 0)] 37) →
  canSet H_5 b2 0 [(.bool x0), (.int .i64 x1), (.int .i64 x2), (.slice x3a x3n x3c)] ∧
  ∀ H_6 : Heap, H_6 = setAll H_5 b2 0 [(.bool x0), (.int .i64 x1), (.int .i64 x2), (.slice x3a x3n x3c)] →
  ∃ v3 : Option Nat, cellAt H_6 b1 2 = some (.map v3) ∧
  ∃ c0 : Bool, ∃ c1 : Int, ∃ c2 : Int, ∃ c3a : Option Addr, ∃ c3n : Nat, ∃ c3c : Nat, cellsAre H_6 b2 0 [(.bool c0), (.int .i64 c1), (.int .i64 c2), (.slice c3a c3n c3c)] ∧
  CallF Try.prog 20 #[(.agg #[(.bool c0), (.int .i64 c1), (.int .i64 c2), (.slice c3a c3n c3c)])] H_6 fun u2 H_7 => ∃ r0 : Bool, ∃ r1 : Int, ∃ r2 : Int, ∃ r3a : Option Addr, ∃ r3n : Nat, ∃ r3c : Nat, u2 = (.agg #[(.bool r0), (.int .i64 r1), (.int .i64 r2), (.slice r3a r3n r3c)]) ∧
  cellAt H_7 b1 2 = some (.map v3) ∧
  RunW Try.prog (Instr.mapUpdate 29 (.map v3) (.int .i64 k) (.agg #[(.bool r0), (.int .i64 r1), (.int .i64 r2), (.slice r3a r3n r3c)])) H_7 fun u3 H_8 =>
  Inv H_8 ∧ mu H_8 < mu H_3) ∧
  ((false) = false →
  K (.pointer (some ⟨b1, 0, none⟩)) H_4)) ∨
  (∃ k1 x : Value, u1 = (.tuple #[(.bool true), k1, x]) ∧
  ((true) = true →
  ∃ k2 : Int, ∃ x0_1 : Bool, ∃ x1_1 : Int, ∃ x2_1 : Int, ∃ x3a1 : Option Addr, ∃ x3n1 : Nat, ∃ x3c1 : Nat, ReadRun Try.prog (Instr.entry (.pointer (some ⟨it, 0, none⟩))) H_4 (.tuple #[(.int .i64 k2), (.agg #[(.bool x0_1), (.int .i64 x1_1), (.int .i64 x2_1), (.slice x3a1 x3n1 x3c1)])]) ∧
  ∀ (b3 : Nat) (H_9 : Heap), b3 = H_4.size → H_9 = H_4.push (.cells #[(.bool false), (.int .i64 0), (.int .i64 0), (.slice none 0 0)] 37) →
  canSet H_9 b3 0 [(.bool x0_1), (.int .i64 x1_1), (.int .i64 x2_1), (.slice x3a1 x3n1 x3c1)] ∧
  ∀ H_10 : Heap, H_10 = setAll H_9 b3 0 [(.bool x0_1), (.int .i64 x1_1), (.int .i64 x2_1), (.slice x3a1 x3n1 x3c1)] →
  ∃ v4 : Option Nat, cellAt H_10 b1 2 = some (.map v4) ∧
  ∃ c0_1 : Bool, ∃ c1_1 : Int, ∃ c2_1 : Int, ∃ c3a1 : Option Addr, ∃ c3n1 : Nat, ∃ c3c1 : Nat, cellsAre H_10 b3 0 [(.bool c0_1), (.int .i64 c1_1), (.int .i64 c2_1), (.slice c3a1 c3n1 c3c1)] ∧
  CallF Try.prog 20 #[(.agg #[(.bool c0_1), (.int .i64 c1_1), (.int .i64 c2_1), (.slice c3a1 c3n1 c3c1)])] H_10 fun u4 H_11 => ∃ r0_1 : Bool, ∃ r1_1 : Int, ∃ r2_1 : Int, ∃ r3a1 : Option Addr, ∃ r3n1 : Nat, ∃ r3c1 : Nat, u4 = (.agg #[(.bool r0_1), (.int .i64 r1_1), (.int .i64 r2_1), (.slice r3a1 r3n1 r3c1)]) ∧
  cellAt H_11 b1 2 = some (.map v4) ∧
  RunW Try.prog (Instr.mapUpdate 29 (.map v4) (.int .i64 k2) (.agg #[(.bool r0_1), (.int .i64 r1_1), (.int .i64 r2_1), (.slice r3a1 r3n1 r3c1)])) H_11 fun u5 H_12 =>
  Inv H_12 ∧ mu H_12 < mu H_3) ∧
  ((true) = false →
  K (.pointer (some ⟨b1, 0, none⟩)) H_4))

def wire_Clone.code (wb : Nat) (wo : Nat) (H : Heap) (K : Value → Heap → Prop) : Prop :=
  ∃ v : Int, cellAt H wb wo = some (.int .i64 v) ∧
  ∃ v1 : Int, cellAt H wb (wo + 1) = some (.int .i64 v1) ∧
  ∀ (b : Nat) (H_ : Heap), b = H.size → H_ = H.push (.map #[] 0) →
  cellAt H_ wb (wo + 1) = some (.int .i64 v1) ∧
  cellAt H_ wb wo = some (.int .i64 v) ∧
  ∀ (b1 : Nat) (H_1 : Heap), b1 = H_.size → H_1 = H_.push (.cells #[(.int .i64 v), (.int .i64 v1), (.map (some b))] 61) →
  ∃ v2 : Option Nat, cellAt H_1 wb (wo + 2) = some (.map v2) ∧
  RunW Try.prog (Instr.range 29 (.map v2)) H_1 fun u H_2 =>
  ∃ it : Nat, u = .pointer (some ⟨it, 0, none⟩) ∧
  ∃ (Inv : Heap → Prop) (mu : Heap → Nat), Inv H_2 ∧
  ∀ H_3 : Heap, Inv H_3 → wire_Clone.l1 K b1 it Inv mu H_3

def wire_Clone.ann : Ann := (.seq .reg (.seq .reg (.seq (.seq .reg (.blk (.loop [] (.seq .reg (.seq (.cond .no .no) (.blk (.seq .reg .reg))))))) (.seq .reg .no))))

theorem wire_Clone.eq (wb : Nat) (wo : Nat) (H : Heap) (K : Value → Heap → Prop) : vcFun (X.nx [(24, .one (.int .i64), .agg [.bool, .int .i64, .int .i64, .slice])]) Try.f18 wire_Clone.ann [(.pointer (some ⟨wb, wo, none⟩))] H K = wire_Clone.code wb wo H K := by kernel_rfl

theorem wire_Clone.call {wb : Nat} {wo : Nat} {H : Heap} {K : Value → Heap → Prop} (h : wire_Clone.code wb wo H K) : CallF Try.prog 18 #[(.pointer (some ⟨wb, wo, none⟩))] H K :=
  callF_of_eq (X := (X.nx [(24, .one (.int .i64), .agg [.bool, .int .i64, .int .i64, .slice])])) X_P X_wide X_bodied Try.func18 (wire_Clone.eq wb wo H K) h

def wire_Next.code (wb : Nat) (wo : Nat) (H : Heap) (K : Value → Heap → Prop) : Prop :=
  ∃ v : Int, cellAt H wb (wo + 1) = some (.int .i64 v) ∧
  K (.int .i64 v) H

def wire_Next.ann : Ann := (.seq .reg (.seq .reg .no))

theorem wire_Next.eq (wb : Nat) (wo : Nat) (H : Heap) (K : Value → Heap → Prop) : vcFun X Try.f17 wire_Next.ann [(.pointer (some ⟨wb, wo, none⟩))] H K = wire_Next.code wb wo H K := by kernel_rfl

theorem wire_Next.call {wb : Nat} {wo : Nat} {H : Heap} {K : Value → Heap → Prop} (h : wire_Next.code wb wo H K) : CallF Try.prog 17 #[(.pointer (some ⟨wb, wo, none⟩))] H K :=
  callF_of_eq (X := X) X_P X_wide X_bodied Try.func17 (wire_Next.eq wb wo H K) h

def wire_Of.code (wb : Nat) (wo : Nat) (n : Int) (H : Heap) (K : Value → Heap → Prop) : Prop :=
  ∀ (b : Nat) (H_ : Heap), b = H.size → H_ = H.push (.cells #[(.bool false), (.int .i64 0), (.int .i64 0), (.slice none 0 0)] 37) →
  ∃ v : Option Nat, cellAt H_ wb (wo + 2) = some (.map v) ∧
  ∃ m0 : Bool, ∃ m1 : Int, ∃ m2 : Int, ∃ m3a : Option Addr, ∃ m3n : Nat, ∃ m3c : Nat, ∃ there : Bool, ReadRun Try.prog (Instr.lookup 29 (.map v) (.int .i64 n) true) H_ (.tuple #[(.agg #[(.bool m0), (.int .i64 m1), (.int .i64 m2), (.slice m3a m3n m3c)]), (.bool there)]) ∧
  ∀ (b1 : Nat) (H_1 : Heap), b1 = H_.size → H_1 = H_.push (.cells #[(.bool false), (.int .i64 0), (.int .i64 0), (.slice none 0 0)] 37) →
  canSet H_1 b1 0 [(.bool m0), (.int .i64 m1), (.int .i64 m2), (.slice m3a m3n m3c)] ∧
  ∀ H_2 : Heap, H_2 = setAll H_1 b1 0 [(.bool m0), (.int .i64 m1), (.int .i64 m2), (.slice m3a m3n m3c)] →
  ∃ c0 : Bool, ∃ c1 : Int, ∃ c2 : Int, ∃ c3a : Option Addr, ∃ c3n : Nat, ∃ c3c : Nat, cellsAre H_2 b1 0 [(.bool c0), (.int .i64 c1), (.int .i64 c2), (.slice c3a c3n c3c)] ∧
  CallF Try.prog 20 #[(.agg #[(.bool c0), (.int .i64 c1), (.int .i64 c2), (.slice c3a c3n c3c)])] H_2 fun u H_3 => ∃ r0 : Bool, ∃ r1 : Int, ∃ r2 : Int, ∃ r3a : Option Addr, ∃ r3n : Nat, ∃ r3c : Nat, u = (.agg #[(.bool r0), (.int .i64 r1), (.int .i64 r2), (.slice r3a r3n r3c)]) ∧
  canSet H_3 b 0 [(.bool r0), (.int .i64 r1), (.int .i64 r2), (.slice r3a r3n r3c)] ∧
  ∀ H_4 : Heap, H_4 = setAll H_3 b 0 [(.bool r0), (.int .i64 r1), (.int .i64 r2), (.slice r3a r3n r3c)] →
  ∃ res0 : Bool, ∃ res1 : Int, ∃ res2 : Int, ∃ res3a : Option Addr, ∃ res3n : Nat, ∃ res3c : Nat, cellsAre H_4 b 0 [(.bool res0), (.int .i64 res1), (.int .i64 res2), (.slice res3a res3n res3c)] ∧
  K (.tuple #[(.agg #[(.bool res0), (.int .i64 res1), (.int .i64 res2), (.slice res3a res3n res3c)]), (.bool there)]) H_4

def wire_Of.ann : Ann := (.seq .reg (.seq .reg (.seq .reg .no)))

theorem wire_Of.eq (wb : Nat) (wo : Nat) (n : Int) (H : Heap) (K : Value → Heap → Prop) : vcFun X Try.f16 wire_Of.ann [(.pointer (some ⟨wb, wo, none⟩)), (.int .i64 n)] H K = wire_Of.code wb wo n H K := by kernel_rfl

theorem wire_Of.call {wb : Nat} {wo : Nat} {n : Int} {H : Heap} {K : Value → Heap → Prop} (h : wire_Of.code wb wo n H K) : CallF Try.prog 16 #[(.pointer (some ⟨wb, wo, none⟩)), (.int .i64 n)] H K :=
  callF_of_eq (X := X) X_P X_wide X_bodied Try.func16 (wire_Of.eq wb wo n H K) h

def wire_For.r1 (Inv : (Option Addr) → Nat → Nat → Heap → Prop) (mu : (Option Addr) → Nat → Nat → Heap → Nat) (lista : Option Addr) (listn : Nat) (listc : Nat) (H_1 : Heap) (lista1 : Option Addr) (listn1 : Nat) (listc1 : Nat) (H_5 : Heap) : Prop :=
  Inv lista1 listn1 listc1 H_5 ∧ mu lista1 listn1 listc1 H_5 < mu lista listn listc H_1

def wire_For.r2 (Inv : (Option Addr) → Nat → Nat → Heap → Prop) (mu : (Option Addr) → Nat → Nat → Heap → Nat) (lista : Option Addr) (listn : Nat) (listc : Nat) (H_1 : Heap) (lista2 : Option Addr) (listn2 : Nat) (listc2 : Nat) (H_11 : Heap) : Prop :=
  Inv lista2 listn2 listc2 H_11 ∧ mu lista2 listn2 listc2 H_11 < mu lista listn listc H_1

def wire_For.l3 (up : Bool) (agent : Int) (K : Value → Heap → Prop) (it : Nat) (Inv : (Option Addr) → Nat → Nat → Heap → Prop) (mu : (Option Addr) → Nat → Nat → Heap → Nat) (lista : Option Addr) (listn : Nat) (listc : Nat) (H_1 : Heap) : Prop :=
  RunW Try.prog (Instr.next (.pointer (some ⟨it, 0, none⟩)) false 0) H_1 fun u1 H_2 =>
  (u1 = (.tuple #[(.bool false)]) ∧
  ((false) = true →
  ∃ k : Int, ∃ x0 : Bool, ∃ x1 : Int, ∃ x2 : Int, ∃ x3a : Option Addr, ∃ x3n : Nat, ∃ x3c : Nat, ReadRun Try.prog (Instr.entry (.pointer (some ⟨it, 0, none⟩))) H_2 (.tuple #[(.int .i64 k), (.agg #[(.bool x0), (.int .i64 x1), (.int .i64 x2), (.slice x3a x3n x3c)])]) ∧
  ∀ (b : Nat) (H_3 : Heap), b = H_2.size → H_3 = H_2.push (.cells #[(.bool false), (.int .i64 0), (.int .i64 0), (.slice none 0 0)] 37) →
  canSet H_3 b 0 [(.bool x0), (.int .i64 x1), (.int .i64 x2), (.slice x3a x3n x3c)] ∧
  ∀ H_4 : Heap, H_4 = setAll H_3 b 0 [(.bool x0), (.int .i64 x1), (.int .i64 x2), (.slice x3a x3n x3c)] →
  ∃ v1 : Bool, cellAt H_4 b 0 = some (.bool v1) ∧
  ∃ v2 : Int, (((v1 == up) = true) → cellAt H_4 b 1 = some (.int .i64 v2)) ∧
  ∀ Jn : (Option Addr) → Nat → Nat → Heap → Prop, (∀ (lista1 : Option Addr) (listn1 : Nat) (listc1 : Nat), ∀ H_5 : Heap, wire_For.r1 Inv mu lista listn listc H_1 lista1 listn1 listc1 H_5 → Jn lista1 listn1 listc1 H_5) →
  ((((v1 == up) && (decide (v2 = agent)))) = true →
  ∀ (b1 : Nat) (H_6 : Heap), b1 = H_4.size → H_6 = H_4.push (.cells #[(.int .i64 k)] 2) →
  RunW Try.prog (Builtin.append_ #[46, 46] 46 #[(.slice lista listn listc), (.slice (some ⟨b1, 0, none⟩) 1 1)]) H_6 fun u2 H_7 =>
  ∃ sa : Option Addr, ∃ sn : Nat, ∃ sc : Nat, u2 = (.slice sa sn sc) ∧
  Jn sa sn sc H_7) ∧
  ((((v1 == up) && (decide (v2 = agent)))) = false →
  Jn lista listn listc H_4)) ∧
  ((false) = false →
  CallF Try.prog 28 #[(.slice lista listn listc)] H_2 fun u3 H_8 => u3 = (.tuple #[]) ∧
  K (.slice lista listn listc) H_8)) ∨
  (∃ k1 x : Value, u1 = (.tuple #[(.bool true), k1, x]) ∧
  ((true) = true →
  ∃ k2 : Int, ∃ x0_1 : Bool, ∃ x1_1 : Int, ∃ x2_1 : Int, ∃ x3a1 : Option Addr, ∃ x3n1 : Nat, ∃ x3c1 : Nat, ReadRun Try.prog (Instr.entry (.pointer (some ⟨it, 0, none⟩))) H_2 (.tuple #[(.int .i64 k2), (.agg #[(.bool x0_1), (.int .i64 x1_1), (.int .i64 x2_1), (.slice x3a1 x3n1 x3c1)])]) ∧
  ∀ (b2 : Nat) (H_9 : Heap), b2 = H_2.size → H_9 = H_2.push (.cells #[(.bool false), (.int .i64 0), (.int .i64 0), (.slice none 0 0)] 37) →
  canSet H_9 b2 0 [(.bool x0_1), (.int .i64 x1_1), (.int .i64 x2_1), (.slice x3a1 x3n1 x3c1)] ∧
  ∀ H_10 : Heap, H_10 = setAll H_9 b2 0 [(.bool x0_1), (.int .i64 x1_1), (.int .i64 x2_1), (.slice x3a1 x3n1 x3c1)] →
  ∃ v3 : Bool, cellAt H_10 b2 0 = some (.bool v3) ∧
  ∃ v4 : Int, (((v3 == up) = true) → cellAt H_10 b2 1 = some (.int .i64 v4)) ∧
  ∀ Jn1 : (Option Addr) → Nat → Nat → Heap → Prop, (∀ (lista2 : Option Addr) (listn2 : Nat) (listc2 : Nat), ∀ H_11 : Heap, wire_For.r2 Inv mu lista listn listc H_1 lista2 listn2 listc2 H_11 → Jn1 lista2 listn2 listc2 H_11) →
  ((((v3 == up) && (decide (v4 = agent)))) = true →
  ∀ (b3 : Nat) (H_12 : Heap), b3 = H_10.size → H_12 = H_10.push (.cells #[(.int .i64 k2)] 2) →
  RunW Try.prog (Builtin.append_ #[46, 46] 46 #[(.slice lista listn listc), (.slice (some ⟨b3, 0, none⟩) 1 1)]) H_12 fun u4 H_13 =>
  ∃ sa1 : Option Addr, ∃ sn1 : Nat, ∃ sc1 : Nat, u4 = (.slice sa1 sn1 sc1) ∧
  Jn1 sa1 sn1 sc1 H_13) ∧
  ((((v3 == up) && (decide (v4 = agent)))) = false →
  Jn1 lista listn listc H_10)) ∧
  ((true) = false →
  CallF Try.prog 28 #[(.slice lista listn listc)] H_2 fun u5 H_14 => u5 = (.tuple #[]) ∧
  K (.slice lista listn listc) H_14))

def wire_For.code (wb : Nat) (wo : Nat) (up : Bool) (agent : Int) (H : Heap) (K : Value → Heap → Prop) : Prop :=
  ∃ v : Option Nat, cellAt H wb (wo + 2) = some (.map v) ∧
  RunW Try.prog (Instr.range 29 (.map v)) H fun u H_ =>
  ∃ it : Nat, u = .pointer (some ⟨it, 0, none⟩) ∧
  ∃ (Inv : (Option Addr) → Nat → Nat → Heap → Prop) (mu : (Option Addr) → Nat → Nat → Heap → Nat), Inv none 0 0 H_ ∧
  ∀ (lista : Option Addr) (listn : Nat) (listc : Nat), ∀ H_1 : Heap, Inv lista listn listc H_1 → wire_For.l3 up agent K it Inv mu lista listn listc H_1

def wire_For.ann : Ann := (.seq .reg (.seq .reg (.seq (.seq .reg (.blk (.loop [(7, .one (.slice))] (.seq .reg (.seq (.cond .no .no) (.blk (.seq .reg (.seq .reg (.condJ [(7, .one (.slice))] .reg .no))))))))) (.seq .reg (.seq .reg .no)))))

theorem wire_For.eq (wb : Nat) (wo : Nat) (up : Bool) (agent : Int) (H : Heap) (K : Value → Heap → Prop) : vcFun (X.nx [(17, .one (.int .i64), .agg [.bool, .int .i64, .int .i64, .slice])]) Try.f15 wire_For.ann [(.pointer (some ⟨wb, wo, none⟩)), (.bool up), (.int .i64 agent)] H K = wire_For.code wb wo up agent H K := by kernel_rfl

theorem wire_For.call {wb : Nat} {wo : Nat} {up : Bool} {agent : Int} {H : Heap} {K : Value → Heap → Prop} (h : wire_For.code wb wo up agent H K) : CallF Try.prog 15 #[(.pointer (some ⟨wb, wo, none⟩)), (.bool up), (.int .i64 agent)] H K :=
  callF_of_eq (X := (X.nx [(17, .one (.int .i64), .agg [.bool, .int .i64, .int .i64, .slice])])) X_P X_wide X_bodied Try.func15 (wire_For.eq wb wo up agent H K) h

def told.l1 (owna : Option Addr) (ownn : Nat) (Inv1 : Int → Heap → Prop) (mu1 : Int → Heap → Nat) (i1 : Int) (H_12 : Heap) (Inv2 : Int → Heap → Prop) (mu2 : Int → Heap → Nat) (k : Int) (H_13 : Heap) : Prop :=
  ((0 : Int) ≤ i1 ∧ i1 < (ownn : Int)) ∧ ∃ b5 o1 : Nat, (owna = some ⟨b5, o1, none⟩) ∧
  ∃ va4 : Option Addr, ∃ vn4 : Nat, ∃ vc4 : Nat, cellAt H_13 b5 (o1 + i1.toNat * 4 + 3) = some (.slice va4 vn4 vc4) ∧
  (((decide (k < (vn4 : Int)))) = true →
  ((0 : Int) ≤ i1 ∧ i1 < (ownn : Int)) ∧ ∃ b6 o2 : Nat, (owna = some ⟨b6, o2, none⟩) ∧
  ∃ va5 : Option Addr, ∃ vn5 : Nat, ∃ vc5 : Nat, cellAt H_13 b6 (o2 + i1.toNat * 4 + 3) = some (.slice va5 vn5 vc5) ∧
  ((0 : Int) ≤ k ∧ k < (vn5 : Int)) ∧ ∃ b7 o3 : Nat, (va5 = some ⟨b7, o3, none⟩) ∧
  ∃ v1 : Int, cellAt H_13 b7 (o3 + k.toNat) = some (.int .u8 v1) ∧
  ((0 : Int) ≤ k ∧ k < (vn5 : Int)) ∧ ∃ b8 o4 : Nat, (va5 = some ⟨b8, o4, none⟩) ∧
  canSet H_13 b8 (o4 + k.toNat) [(.int .u8 (IntKind.u8.wrap (v1 + 1)))] ∧
  ∀ H_14 : Heap, H_14 = setAll H_13 b8 (o4 + k.toNat) [(.int .u8 (IntKind.u8.wrap (v1 + 1)))] →
  Inv2 (IntKind.i64.wrap (k + 1)) H_14 ∧ mu2 (IntKind.i64.wrap (k + 1)) H_14 < mu2 k H_13) ∧
  (((decide (k < (vn4 : Int)))) = false →
  Inv1 (IntKind.i64.wrap (i1 + 1)) H_13 ∧ mu1 (IntKind.i64.wrap (i1 + 1)) H_13 < mu1 i1 H_12)

def told.l2 (K : Value → Heap → Prop) (owna : Option Addr) (ownn : Nat) (r : Int) (r1 : Int) (r2 : Int) (r3 : Int) (Inv1 : Int → Heap → Prop) (mu1 : Int → Heap → Nat) (i1 : Int) (H_12 : Heap) : Prop :=
  (((decide (i1 < (ownn : Int)))) = true →
  ∃ (Inv2 : Int → Heap → Prop) (mu2 : Int → Heap → Nat), Inv2 0 H_12 ∧
  ∀ (k : Int), ∀ H_13 : Heap, Inv2 k H_13 → told.l1 owna ownn Inv1 mu1 i1 H_12 Inv2 mu2 k H_13) ∧
  (((decide (i1 < (ownn : Int)))) = false →
  K (.bool ((decide (r = r2)) && (decide (r1 = r3)))) H_12)

def told.l3 (wb : Nat) (wo : Nat) (rb : Nat) (ro : Nat) (K : Value → Heap → Prop) (b : Nat) (Inv : (Option Addr) → Nat → Nat → Int → Heap → Prop) (mu : (Option Addr) → Nat → Nat → Int → Heap → Nat) (owna : Option Addr) (ownn : Nat) (ownc : Nat) (i : Int) (H_2 : Heap) : Prop :=
  ∃ va : Option Addr, ∃ vn : Nat, ∃ vc : Nat, cellAt H_2 b 2 = some (.slice va vn vc) ∧
  (((decide (i < (vn : Int)))) = true →
  ∃ va1 : Option Addr, ∃ vn1 : Nat, ∃ vc1 : Nat, cellAt H_2 b 2 = some (.slice va1 vn1 vc1) ∧
  ((0 : Int) ≤ i ∧ i < (vn1 : Int)) ∧ ∃ b2 o : Nat, (va1 = some ⟨b2, o, none⟩) ∧
  ∃ c0_1 : Bool, ∃ c1_1 : Int, ∃ c2 : Int, ∃ c3a : Option Addr, ∃ c3n : Nat, ∃ c3c : Nat, cellsAre H_2 b2 (o + i.toNat * 4) [(.bool c0_1), (.int .i64 c1_1), (.int .i64 c2), (.slice c3a c3n c3c)] ∧
  ∀ (b3 : Nat) (H_3 : Heap), b3 = H_2.size → H_3 = H_2.push (.cells #[(.bool false), (.int .i64 0), (.int .i64 0), (.slice none 0 0)] 37) →
  canSet H_3 b3 0 [(.bool c0_1), (.int .i64 c1_1), (.int .i64 c2), (.slice c3a c3n c3c)] ∧
  ∀ H_4 : Heap, H_4 = setAll H_3 b3 0 [(.bool c0_1), (.int .i64 c1_1), (.int .i64 c2), (.slice c3a c3n c3c)] →
  ∃ va2 : Option Addr, ∃ vn2 : Nat, ∃ vc2 : Nat, cellAt H_4 b3 3 = some (.slice va2 vn2 vc2) ∧
  CallF Try.prog 22 #[(.slice va2 vn2 vc2)] H_4 fun u H_5 => ∃ ra : Option Addr, ∃ rn : Nat, ∃ rc : Nat, u = (.slice ra rn rc) ∧
  canSet H_5 b3 3 [(.slice ra rn rc)] ∧
  ∀ H_6 : Heap, H_6 = setAll H_5 b3 3 [(.slice ra rn rc)] →
  ∃ c0_2 : Bool, ∃ c1_2 : Int, ∃ c2_1 : Int, ∃ c3a1 : Option Addr, ∃ c3n1 : Nat, ∃ c3c1 : Nat, cellsAre H_6 b3 0 [(.bool c0_2), (.int .i64 c1_2), (.int .i64 c2_1), (.slice c3a1 c3n1 c3c1)] ∧
  ∀ (b4 : Nat) (H_7 : Heap), b4 = H_6.size → H_7 = H_6.push (.cells #[(.bool c0_2), (.int .i64 c1_2), (.int .i64 c2_1), (.slice c3a1 c3n1 c3c1)] 37) →
  RunW Try.prog (Builtin.append_ #[30, 30] 30 #[(.slice owna ownn ownc), (.slice (some ⟨b4, 0, none⟩) 1 1)]) H_7 fun u1 H_8 =>
  ∃ sa : Option Addr, ∃ sn : Nat, ∃ sc : Nat, u1 = (.slice sa sn sc) ∧
  Inv sa sn sc (IntKind.i64.wrap (i + 1)) H_8 ∧ mu sa sn sc (IntKind.i64.wrap (i + 1)) H_8 < mu owna ownn ownc i H_2) ∧
  (((decide (i < (vn : Int)))) = false →
  CallF Try.prog 8 #[(.pointer (some ⟨wb, wo, none⟩)), (.slice owna ownn ownc)] H_2 fun u2 H_9 => ∃ r : Int, ∃ r1 : Int, u2 = (.tuple #[(.int .i64 r), (.int .i64 r1)]) ∧
  ∃ va3 : Option Addr, ∃ vn3 : Nat, ∃ vc3 : Nat, cellAt H_9 b 2 = some (.slice va3 vn3 vc3) ∧
  CallF Try.prog 11 #[(.slice va3 vn3 vc3)] H_9 fun u3 H_10 => ∃ ra1 : Option Addr, ∃ rn1 : Nat, ∃ rc1 : Nat, u3 = (.slice ra1 rn1 rc1) ∧
  CallF Try.prog 25 #[(.pointer (some ⟨rb, ro, none⟩)), (.slice ra1 rn1 rc1)] H_10 fun u4 H_11 => ∃ r2 : Int, ∃ r3 : Int, u4 = (.tuple #[(.int .i64 r2), (.int .i64 r3)]) ∧
  ∃ (Inv1 : Int → Heap → Prop) (mu1 : Int → Heap → Nat), Inv1 0 H_11 ∧
  ∀ (i1 : Int), ∀ H_12 : Heap, Inv1 i1 H_12 → told.l2 K owna ownn r r1 r2 r3 Inv1 mu1 i1 H_12)

def told.r4 (K : Value → Heap → Prop) (t6 : Bool) (H_21 : Heap) : Prop :=
  K (.bool t6) H_21

def told.code (wb : Nat) (wo : Nat) (rb : Nat) (ro : Nat) (c0 : Int) (c1 : Int) (c2a : Option Addr) (c2n : Nat) (c2c : Nat) (H : Heap) (K : Value → Heap → Prop) : Prop :=
  ∀ (b : Nat) (H_ : Heap), b = H.size → H_ = H.push (.cells #[(.int .i64 c0), (.int .i64 c1), (.slice c2a c2n c2c)] 32) →
  ∃ v : Int, cellAt H_ b 0 = some (.int .i64 v) ∧
  (((decide (v = 0))) = true →
  ∀ (b1 : Nat) (H_1 : Heap), b1 = H_.size → H_1 = H_.push (.cells #[] 37) →
  ∃ (Inv : (Option Addr) → Nat → Nat → Int → Heap → Prop) (mu : (Option Addr) → Nat → Nat → Int → Heap → Nat), Inv (some ⟨b1, 0, none⟩) 0 0 0 H_1 ∧
  ∀ (owna : Option Addr) (ownn : Nat) (ownc : Nat) (i : Int), ∀ H_2 : Heap, Inv owna ownn ownc i H_2 → told.l3 wb wo rb ro K b Inv mu owna ownn ownc i H_2) ∧
  (((decide (v = 0))) = false →
  (((decide (v = 1))) = true →
  ∃ v2 : Int, cellAt H_ b 1 = some (.int .i64 v2) ∧
  CallF Try.prog 9 #[(.pointer (some ⟨wb, wo, none⟩)), (.int .i64 v2)] H_ fun u5 H_15 => ∃ r0 : Bool, ∃ r1_1 : Int, ∃ r2_1 : Int, ∃ r3a : Option Addr, ∃ r3n : Nat, ∃ r3c : Nat, ∃ r4 : Int, u5 = (.tuple #[(.agg #[(.bool r0), (.int .i64 r1_1), (.int .i64 r2_1), (.slice r3a r3n r3c)]), (.int .i64 r4)]) ∧
  ∀ (b9 : Nat) (H_16 : Heap), b9 = H_15.size → H_16 = H_15.push (.cells #[(.bool false), (.int .i64 0), (.int .i64 0), (.slice none 0 0)] 37) →
  canSet H_16 b9 0 [(.bool r0), (.int .i64 r1_1), (.int .i64 r2_1), (.slice r3a r3n r3c)] ∧
  ∀ H_17 : Heap, H_17 = setAll H_16 b9 0 [(.bool r0), (.int .i64 r1_1), (.int .i64 r2_1), (.slice r3a r3n r3c)] →
  ∃ v3 : Int, cellAt H_17 b 1 = some (.int .i64 v3) ∧
  CallF Try.prog 26 #[(.pointer (some ⟨rb, ro, none⟩)), (.int .i64 v3)] H_17 fun u6 H_18 => ∃ r0_1 : Bool, ∃ r1_2 : Int, ∃ r2_2 : Int, ∃ r3a1 : Option Addr, ∃ r3n1 : Nat, ∃ r3c1 : Nat, ∃ r5 : Int, u6 = (.tuple #[(.agg #[(.bool r0_1), (.int .i64 r1_2), (.int .i64 r2_2), (.slice r3a1 r3n1 r3c1)]), (.int .i64 r5)]) ∧
  ∀ (b10 : Nat) (H_19 : Heap), b10 = H_18.size → H_19 = H_18.push (.cells #[(.bool false), (.int .i64 0), (.int .i64 0), (.slice none 0 0)] 42) →
  canSet H_19 b10 0 [(.bool r0_1), (.int .i64 r1_2), (.int .i64 r2_2), (.slice r3a1 r3n1 r3c1)] ∧
  ∀ H_20 : Heap, H_20 = setAll H_19 b10 0 [(.bool r0_1), (.int .i64 r1_2), (.int .i64 r2_2), (.slice r3a1 r3n1 r3c1)] →
  ∀ Jn : Bool → Heap → Prop, (∀ (t6 : Bool), ∀ H_21 : Heap, told.r4 K t6 H_21 → Jn t6 H_21) →
  ∃ c0_3 : Bool, ∃ c1_3 : Int, ∃ c2_2 : Int, ∃ c3a2 : Option Addr, ∃ c3n2 : Nat, ∃ c3c2 : Nat, (((decide (r4 = r5)) = true) → cellsAre H_20 b9 0 [(.bool c0_3), (.int .i64 c1_3), (.int .i64 c2_2), (.slice c3a2 c3n2 c3c2)]) ∧
  ∃ c0_4 : Bool, ∃ c1_4 : Int, ∃ c2_3 : Int, ∃ c3a3 : Option Addr, ∃ c3n3 : Nat, ∃ c3c3 : Nat, (((decide (r4 = r5)) = true) → cellsAre H_20 b10 0 [(.bool c0_4), (.int .i64 c1_4), (.int .i64 c2_3), (.slice c3a3 c3n3 c3c3)]) ∧
  (((decide (r4 = r5)) = true) →
  CallF Try.prog 10 #[(.agg #[(.bool c0_3), (.int .i64 c1_3), (.int .i64 c2_2), (.slice c3a2 c3n2 c3c2)]), (.agg #[(.bool c0_4), (.int .i64 c1_4), (.int .i64 c2_3), (.slice c3a3 c3n3 c3c3)])] H_20 fun u7 H_22 => ∃ r6 : Bool, u7 = (.bool r6) ∧
  Jn r6 H_22) ∧
  (¬ ((decide (r4 = r5)) = true) →
  Jn false H_20)) ∧
  (((decide (v = 1))) = false →
  (((decide (v = 2))) = true →
  ∃ v4 : Int, cellAt H_ b 1 = some (.int .i64 v4) ∧
  CallF Try.prog 12 #[(.pointer (some ⟨wb, wo, none⟩)), (.int .i64 v4)] H_ fun u8 H_23 => ∃ r7 : Int, ∃ r8 : Int, u8 = (.tuple #[(.int .i64 r7), (.int .i64 r8)]) ∧
  ∃ v5 : Int, cellAt H_23 b 1 = some (.int .i64 v5) ∧
  CallF Try.prog 27 #[(.pointer (some ⟨rb, ro, none⟩)), (.int .i64 v5)] H_23 fun u9 H_24 => ∃ r9 : Int, ∃ r10 : Int, u9 = (.tuple #[(.int .i64 r9), (.int .i64 r10)]) ∧
  K (.bool ((decide (r7 = r9)) && (decide (r8 = r10)))) H_24) ∧
  (((decide (v = 2))) = false →
  K (.bool true) H_)))

def told.ann : Ann := (.seq .reg (.seq (.seq .reg (.blk (.seq .reg (.cond (.seq .reg (.seq (.seq .reg (.blk (.loop [(7, .one (.slice)), (8, .one (.int .i64))] (.seq (.seq .reg (.cond .no .no)) (.seq (.blk (.seq .reg (.seq .reg .reg))) .reg))))) (.seq .reg (.seq .reg (.seq (.seq .reg (.blk (.loop [(14, .one (.int .i64))] (.seq (.seq .reg (.cond .no .no)) (.seq (.blk (.seq .reg (.blk (.loop [(15, .one (.int .i64))] (.seq (.seq .reg (.cond .no .no)) (.seq (.blk .reg) .reg)))))) .reg))))) (.seq .reg .no)))))) (.seq .reg (.cond (.seq .reg (.seq .reg (.seq (.regJ [(6, .one (.bool))]) .no))) (.seq .reg (.cond (.seq .reg (.seq .reg (.seq .reg .no))) .no)))))))) (.seq .reg .no)))

theorem told.eq (wb : Nat) (wo : Nat) (rb : Nat) (ro : Nat) (c0 : Int) (c1 : Int) (c2a : Option Addr) (c2n : Nat) (c2c : Nat) (H : Heap) (K : Value → Heap → Prop) : vcFun X Try.f14 told.ann [(.pointer (some ⟨wb, wo, none⟩)), (.pointer (some ⟨rb, ro, none⟩)), (.agg #[(.int .i64 c0), (.int .i64 c1), (.slice c2a c2n c2c)])] H K = told.code wb wo rb ro c0 c1 c2a c2n c2c H K := by kernel_rfl

theorem told.call {wb : Nat} {wo : Nat} {rb : Nat} {ro : Nat} {c0 : Int} {c1 : Int} {c2a : Option Addr} {c2n : Nat} {c2c : Nat} {H : Heap} {K : Value → Heap → Prop} (h : told.code wb wo rb ro c0 c1 c2a c2n c2c H K) : CallF Try.prog 14 #[(.pointer (some ⟨wb, wo, none⟩)), (.pointer (some ⟨rb, ro, none⟩)), (.agg #[(.int .i64 c0), (.int .i64 c1), (.slice c2a c2n c2c)])] H K :=
  callF_of_eq (X := X) X_P X_wide X_bodied Try.func14 (told.eq wb wo rb ro c0 c1 c2a c2n c2c H K) h

def wire_Flying.code (wb : Nat) (wo : Nat) (H : Heap) (K : Value → Heap → Prop) : Prop :=
  ∃ v : Option Nat, cellAt H wb (wo + 2) = some (.map v) ∧
  CallF Try.prog 24 #[(.map v)] H fun u H_ => ∃ rf : FuncId, ∃ rl : List Value, u = (.func (.func rf) #[] ⟨rl⟩) ∧
  CallF Try.prog 23 #[(.func (.func rf) #[] ⟨rl⟩)] H_ fun u1 H_1 => ∃ ra : Option Addr, ∃ rn : Nat, ∃ rc : Nat, u1 = (.slice ra rn rc) ∧
  K (.slice ra rn rc) H_1

def wire_Flying.ann : Ann := (.seq .reg (.seq .reg .no))

theorem wire_Flying.eq (wb : Nat) (wo : Nat) (H : Heap) (K : Value → Heap → Prop) : vcFun X Try.f13 wire_Flying.ann [(.pointer (some ⟨wb, wo, none⟩))] H K = wire_Flying.code wb wo H K := by kernel_rfl

theorem wire_Flying.call {wb : Nat} {wo : Nat} {H : Heap} {K : Value → Heap → Prop} (h : wire_Flying.code wb wo H K) : CallF Try.prog 13 #[(.pointer (some ⟨wb, wo, none⟩))] H K :=
  callF_of_eq (X := X) X_P X_wide X_bodied Try.func13 (wire_Flying.eq wb wo H K) h

def wire_Double.code (wb : Nat) (wo : Nat) (n : Int) (H : Heap) (K : Value → Heap → Prop) : Prop :=
  ∃ v : Option Nat, cellAt H wb (wo + 2) = some (.map v) ∧
  ∃ m0 : Bool, ∃ m1 : Int, ∃ m2 : Int, ∃ m3a : Option Addr, ∃ m3n : Nat, ∃ m3c : Nat, ∃ there : Bool, ReadRun Try.prog (Instr.lookup 29 (.map v) (.int .i64 n) true) H (.tuple #[(.agg #[(.bool m0), (.int .i64 m1), (.int .i64 m2), (.slice m3a m3n m3c)]), (.bool there)]) ∧
  ∀ (b : Nat) (H_ : Heap), b = H.size → H_ = H.push (.cells #[(.bool false), (.int .i64 0), (.int .i64 0), (.slice none 0 0)] 37) →
  canSet H_ b 0 [(.bool m0), (.int .i64 m1), (.int .i64 m2), (.slice m3a m3n m3c)] ∧
  ∀ H_1 : Heap, H_1 = setAll H_ b 0 [(.bool m0), (.int .i64 m1), (.int .i64 m2), (.slice m3a m3n m3c)] →
  (((!there)) = true →
  K (.tuple #[(.int .i64 (-1)), (.int .i64 19)]) H_1) ∧
  (((!there)) = false →
  ∃ c0 : Bool, ∃ c1 : Int, ∃ c2 : Int, ∃ c3a : Option Addr, ∃ c3n : Nat, ∃ c3c : Nat, cellsAre H_1 b 0 [(.bool c0), (.int .i64 c1), (.int .i64 c2), (.slice c3a c3n c3c)] ∧
  ∀ (b1 : Nat) (H_2 : Heap), b1 = H_1.size → H_2 = H_1.push (.cells #[(.bool c0), (.int .i64 c1), (.int .i64 c2), (.slice c3a c3n c3c)] 37) →
  CallF Try.prog 8 #[(.pointer (some ⟨wb, wo, none⟩)), (.slice (some ⟨b1, 0, none⟩) 1 1)] H_2 fun u H_3 => ∃ r : Int, ∃ r1 : Int, u = (.tuple #[(.int .i64 r), (.int .i64 r1)]) ∧
  K (.tuple #[(.int .i64 r), (.int .i64 r1)]) H_3)

def wire_Double.ann : Ann := (.seq .reg (.seq .reg (.seq (.seq .reg (.cond (.seq .reg .no) .no)) (.seq .reg .no))))

theorem wire_Double.eq (wb : Nat) (wo : Nat) (n : Int) (H : Heap) (K : Value → Heap → Prop) : vcFun X Try.f12 wire_Double.ann [(.pointer (some ⟨wb, wo, none⟩)), (.int .i64 n)] H K = wire_Double.code wb wo n H K := by kernel_rfl

theorem wire_Double.call {wb : Nat} {wo : Nat} {n : Int} {H : Heap} {K : Value → Heap → Prop} (h : wire_Double.code wb wo n H K) : CallF Try.prog 12 #[(.pointer (some ⟨wb, wo, none⟩)), (.int .i64 n)] H K :=
  callF_of_eq (X := X) X_P X_wide X_bodied Try.func12 (wire_Double.eq wb wo n H K) h

def of.l1 (la : Option Addr) (ln : Nat) (K : Value → Heap → Prop) (Inv : (Option Addr) → Nat → Nat → Int → Heap → Prop) (mu : (Option Addr) → Nat → Nat → Int → Heap → Nat) (outa : Option Addr) (outn : Nat) (outc : Nat) (i : Int) (H_1 : Heap) : Prop :=
  (((decide (i < (ln : Int)))) = true →
  ((0 : Int) ≤ i ∧ i < (ln : Int)) ∧ ∃ b1 o : Nat, (la = some ⟨b1, o, none⟩) ∧
  ∃ v : Bool, cellAt H_1 b1 (o + i.toNat * 4) = some (.bool v) ∧
  ((0 : Int) ≤ i ∧ i < (ln : Int)) ∧ ∃ b2 o1 : Nat, (la = some ⟨b2, o1, none⟩) ∧
  ∃ v1 : Int, cellAt H_1 b2 (o1 + i.toNat * 4 + 1) = some (.int .i64 v1) ∧
  ((0 : Int) ≤ i ∧ i < (ln : Int)) ∧ ∃ b3 o2 : Nat, (la = some ⟨b3, o2, none⟩) ∧
  ∃ v2 : Int, cellAt H_1 b3 (o2 + i.toNat * 4 + 2) = some (.int .i64 v2) ∧
  ((0 : Int) ≤ i ∧ i < (ln : Int)) ∧ ∃ b4 o3 : Nat, (la = some ⟨b4, o3, none⟩) ∧
  ∃ va : Option Addr, ∃ vn : Nat, ∃ vc : Nat, cellAt H_1 b4 (o3 + i.toNat * 4 + 3) = some (.slice va vn vc) ∧
  CallF Try.prog 22 #[(.slice va vn vc)] H_1 fun u H_2 => ∃ ra : Option Addr, ∃ rn : Nat, ∃ rc : Nat, u = (.slice ra rn rc) ∧
  cellAt H_2 b3 (o2 + i.toNat * 4 + 2) = some (.int .i64 v2) ∧
  cellAt H_2 b2 (o1 + i.toNat * 4 + 1) = some (.int .i64 v1) ∧
  cellAt H_2 b1 (o + i.toNat * 4) = some (.bool v) ∧
  ∀ (b5 : Nat) (H_3 : Heap), b5 = H_2.size → H_3 = H_2.push (.cells #[(.bool v), (.int .i64 v1), (.int .i64 v2), (.slice ra rn rc)] 42) →
  RunW Try.prog (Builtin.append_ #[43, 43] 43 #[(.slice outa outn outc), (.slice (some ⟨b5, 0, none⟩) 1 1)]) H_3 fun u1 H_4 =>
  ∃ sa : Option Addr, ∃ sn : Nat, ∃ sc : Nat, u1 = (.slice sa sn sc) ∧
  Inv sa sn sc (IntKind.i64.wrap (i + 1)) H_4 ∧ mu sa sn sc (IntKind.i64.wrap (i + 1)) H_4 < mu outa outn outc i H_1) ∧
  (((decide (i < (ln : Int)))) = false →
  K (.slice outa outn outc) H_1)

def of.code (la : Option Addr) (ln : Nat) (lc : Nat) (H : Heap) (K : Value → Heap → Prop) : Prop :=
  ∀ (b : Nat) (H_ : Heap), b = H.size → H_ = H.push (.cells #[] 42) →
  ∃ (Inv : (Option Addr) → Nat → Nat → Int → Heap → Prop) (mu : (Option Addr) → Nat → Nat → Int → Heap → Nat), Inv (some ⟨b, 0, none⟩) 0 0 0 H_ ∧
  ∀ (outa : Option Addr) (outn : Nat) (outc : Nat) (i : Int), ∀ H_1 : Heap, Inv outa outn outc i H_1 → of.l1 la ln K Inv mu outa outn outc i H_1

def of.ann : Ann := (.seq .reg (.seq .reg (.seq (.seq .reg (.blk (.loop [(3, .one (.slice)), (4, .one (.int .i64))] (.seq (.seq .reg (.cond .no .no)) (.seq (.blk .reg) .reg))))) (.seq .reg .no))))

theorem of.eq (la : Option Addr) (ln : Nat) (lc : Nat) (H : Heap) (K : Value → Heap → Prop) : vcFun X Try.f11 of.ann [(.slice la ln lc)] H K = of.code la ln lc H K := by kernel_rfl

theorem of.call {la : Option Addr} {ln : Nat} {lc : Nat} {H : Heap} {K : Value → Heap → Prop} (h : of.code la ln lc H K) : CallF Try.prog 11 #[(.slice la ln lc)] H K :=
  callF_of_eq (X := X) X_P X_wide X_bodied Try.func11 (of.eq la ln lc H K) h

def same.code (a0 : Bool) (a1 : Int) (a2 : Int) (a3a : Option Addr) (a3n : Nat) (a3c : Nat) (b0 : Bool) (b1 : Int) (b2 : Int) (b3a : Option Addr) (b3n : Nat) (b3c : Nat) (H : Heap) (K : Value → Heap → Prop) : Prop :=
  ∀ (b : Nat) (H_ : Heap), b = H.size → H_ = H.push (.cells #[(.bool a0), (.int .i64 a1), (.int .i64 a2), (.slice a3a a3n a3c)] 37) →
  ∀ (b3 : Nat) (H_1 : Heap), b3 = H_.size → H_1 = H_.push (.cells #[(.bool b0), (.int .i64 b1), (.int .i64 b2), (.slice b3a b3n b3c)] 42) →
  ∃ v : Bool, cellAt H_1 b 0 = some (.bool v) ∧
  ∃ v1 : Bool, cellAt H_1 b3 0 = some (.bool v1) ∧
  ∃ v2 : Int, (((v == v1) = true) → cellAt H_1 b 1 = some (.int .i64 v2)) ∧
  ∃ v3 : Int, (((v == v1) = true) → cellAt H_1 b3 1 = some (.int .i64 v3)) ∧
  ∃ v4 : Int, ((((v == v1) && (decide (v2 = v3))) = true) → cellAt H_1 b 2 = some (.int .i64 v4)) ∧
  ∃ v5 : Int, ((((v == v1) && (decide (v2 = v3))) = true) → cellAt H_1 b3 2 = some (.int .i64 v5)) ∧
  ∃ va : Option Addr, ∃ vn : Nat, ∃ vc : Nat, (((((v == v1) && (decide (v2 = v3))) && (decide (v4 = v5))) = true) → cellAt H_1 b 3 = some (.slice va vn vc)) ∧
  ∃ va1 : Option Addr, ∃ vn1 : Nat, ∃ vc1 : Nat, (((((v == v1) && (decide (v2 = v3))) && (decide (v4 = v5))) = true) → cellAt H_1 b3 3 = some (.slice va1 vn1 vc1)) ∧
  ∃ r : Bool, (((((v == v1) && (decide (v2 = v3))) && (decide (v4 = v5))) = true) → CallQ Try.prog 21 #[(.slice va vn vc), (.slice va1 vn1 vc1)] H_1 (.bool r)) ∧
  K (.bool ((((v == v1) && (decide (v2 = v3))) && (decide (v4 = v5))) && r)) H_1

def same.ann : Ann := (.seq .reg (.seq .reg .no))

theorem same.eq (a0 : Bool) (a1 : Int) (a2 : Int) (a3a : Option Addr) (a3n : Nat) (a3c : Nat) (b0 : Bool) (b1 : Int) (b2 : Int) (b3a : Option Addr) (b3n : Nat) (b3c : Nat) (H : Heap) (K : Value → Heap → Prop) : vcFun X Try.f10 same.ann [(.agg #[(.bool a0), (.int .i64 a1), (.int .i64 a2), (.slice a3a a3n a3c)]), (.agg #[(.bool b0), (.int .i64 b1), (.int .i64 b2), (.slice b3a b3n b3c)])] H K = same.code a0 a1 a2 a3a a3n a3c b0 b1 b2 b3a b3n b3c H K := by kernel_rfl

theorem same.call {a0 : Bool} {a1 : Int} {a2 : Int} {a3a : Option Addr} {a3n : Nat} {a3c : Nat} {b0 : Bool} {b1 : Int} {b2 : Int} {b3a : Option Addr} {b3n : Nat} {b3c : Nat} {H : Heap} {K : Value → Heap → Prop} (h : same.code a0 a1 a2 a3a a3n a3c b0 b1 b2 b3a b3n b3c H K) : CallF Try.prog 10 #[(.agg #[(.bool a0), (.int .i64 a1), (.int .i64 a2), (.slice a3a a3n a3c)]), (.agg #[(.bool b0), (.int .i64 b1), (.int .i64 b2), (.slice b3a b3n b3c)])] H K :=
  callF_of_eq (X := X) X_P X_wide X_bodied Try.func10 (same.eq a0 a1 a2 a3a a3n a3c b0 b1 b2 b3a b3n b3c H K) h

def wire_Take.code (wb : Nat) (wo : Nat) (n : Int) (H : Heap) (K : Value → Heap → Prop) : Prop :=
  ∀ (b : Nat) (H_ : Heap), b = H.size → H_ = H.push (.cells #[(.bool false), (.int .i64 0), (.int .i64 0), (.slice none 0 0)] 37) →
  ∃ v : Option Nat, cellAt H_ wb (wo + 2) = some (.map v) ∧
  ∃ m0 : Bool, ∃ m1 : Int, ∃ m2 : Int, ∃ m3a : Option Addr, ∃ m3n : Nat, ∃ m3c : Nat, ∃ there : Bool, ReadRun Try.prog (Instr.lookup 29 (.map v) (.int .i64 n) true) H_ (.tuple #[(.agg #[(.bool m0), (.int .i64 m1), (.int .i64 m2), (.slice m3a m3n m3c)]), (.bool there)]) ∧
  ∀ (b1 : Nat) (H_1 : Heap), b1 = H_.size → H_1 = H_.push (.cells #[(.bool false), (.int .i64 0), (.int .i64 0), (.slice none 0 0)] 37) →
  canSet H_1 b1 0 [(.bool m0), (.int .i64 m1), (.int .i64 m2), (.slice m3a m3n m3c)] ∧
  ∀ H_2 : Heap, H_2 = setAll H_1 b1 0 [(.bool m0), (.int .i64 m1), (.int .i64 m2), (.slice m3a m3n m3c)] →
  (((!there)) = true →
  canSet H_2 b 0 [(.bool false), (.int .i64 0), (.int .i64 0), (.slice none 0 0)] ∧
  ∀ H_3 : Heap, H_3 = setAll H_2 b 0 [(.bool false), (.int .i64 0), (.int .i64 0), (.slice none 0 0)] →
  ∃ res0 : Bool, ∃ res1 : Int, ∃ res2 : Int, ∃ res3a : Option Addr, ∃ res3n : Nat, ∃ res3c : Nat, cellsAre H_3 b 0 [(.bool res0), (.int .i64 res1), (.int .i64 res2), (.slice res3a res3n res3c)] ∧
  K (.tuple #[(.agg #[(.bool res0), (.int .i64 res1), (.int .i64 res2), (.slice res3a res3n res3c)]), (.int .i64 19)]) H_3) ∧
  (((!there)) = false →
  ∃ v1 : Option Nat, cellAt H_2 wb (wo + 2) = some (.map v1) ∧
  RunW Try.prog (Builtin.delete_ #[29, 2] 0 #[(.map v1), (.int .i64 n)]) H_2 fun u H_4 =>
  ∃ c0 : Bool, ∃ c1 : Int, ∃ c2 : Int, ∃ c3a : Option Addr, ∃ c3n : Nat, ∃ c3c : Nat, cellsAre H_4 b1 0 [(.bool c0), (.int .i64 c1), (.int .i64 c2), (.slice c3a c3n c3c)] ∧
  canSet H_4 b 0 [(.bool c0), (.int .i64 c1), (.int .i64 c2), (.slice c3a c3n c3c)] ∧
  ∀ H_5 : Heap, H_5 = setAll H_4 b 0 [(.bool c0), (.int .i64 c1), (.int .i64 c2), (.slice c3a c3n c3c)] →
  ∃ res0_1 : Bool, ∃ res1_1 : Int, ∃ res2_1 : Int, ∃ res3a1 : Option Addr, ∃ res3n1 : Nat, ∃ res3c1 : Nat, cellsAre H_5 b 0 [(.bool res0_1), (.int .i64 res1_1), (.int .i64 res2_1), (.slice res3a1 res3n1 res3c1)] ∧
  K (.tuple #[(.agg #[(.bool res0_1), (.int .i64 res1_1), (.int .i64 res2_1), (.slice res3a1 res3n1 res3c1)]), (.int .i64 0)]) H_5)

def wire_Take.ann : Ann := (.seq .reg (.seq .reg (.seq (.seq .reg (.cond (.seq .reg .no) .no)) (.seq .reg (.seq .reg .no)))))

theorem wire_Take.eq (wb : Nat) (wo : Nat) (n : Int) (H : Heap) (K : Value → Heap → Prop) : vcFun X Try.f9 wire_Take.ann [(.pointer (some ⟨wb, wo, none⟩)), (.int .i64 n)] H K = wire_Take.code wb wo n H K := by kernel_rfl

theorem wire_Take.call {wb : Nat} {wo : Nat} {n : Int} {H : Heap} {K : Value → Heap → Prop} (h : wire_Take.code wb wo n H K) : CallF Try.prog 9 #[(.pointer (some ⟨wb, wo, none⟩)), (.int .i64 n)] H K :=
  callF_of_eq (X := X) X_P X_wide X_bodied Try.func9 (wire_Take.eq wb wo n H K) h

def wire_Put.l1 (wb : Nat) (wo : Nat) (lista : Option Addr) (listn : Nat) (K : Value → Heap → Prop) (v6 : Int) (Inv1 : Int → Heap → Prop) (mu1 : Int → Heap → Nat) (t55 : Int) (H_3 : Heap) : Prop :=
  (((decide (t55 < (listn : Int)))) = true →
  ((0 : Int) ≤ t55 ∧ t55 < (listn : Int)) ∧ ∃ b2 o1 : Nat, (lista = some ⟨b2, o1, none⟩) ∧
  ∃ c0_1 : Bool, ∃ c1_1 : Int, ∃ c2_1 : Int, ∃ c3a1 : Option Addr, ∃ c3n1 : Nat, ∃ c3c1 : Nat, cellsAre H_3 b2 (o1 + t55.toNat * 4) [(.bool c0_1), (.int .i64 c1_1), (.int .i64 c2_1), (.slice c3a1 c3n1 c3c1)] ∧
  ∀ (b3 : Nat) (H_4 : Heap), b3 = H_3.size → H_4 = H_3.push (.cells #[(.bool false), (.int .i64 0), (.int .i64 0), (.slice none 0 0)] 37) →
  canSet H_4 b3 0 [(.bool c0_1), (.int .i64 c1_1), (.int .i64 c2_1), (.slice c3a1 c3n1 c3c1)] ∧
  ∀ H_5 : Heap, H_5 = setAll H_4 b3 0 [(.bool c0_1), (.int .i64 c1_1), (.int .i64 c2_1), (.slice c3a1 c3n1 c3c1)] →
  ∃ v7 : Option Nat, cellAt H_5 wb (wo + 2) = some (.map v7) ∧
  ∃ v8 : Int, cellAt H_5 wb (wo + 1) = some (.int .i64 v8) ∧
  ∃ c0_2 : Bool, ∃ c1_2 : Int, ∃ c2_2 : Int, ∃ c3a2 : Option Addr, ∃ c3n2 : Nat, ∃ c3c2 : Nat, cellsAre H_5 b3 0 [(.bool c0_2), (.int .i64 c1_2), (.int .i64 c2_2), (.slice c3a2 c3n2 c3c2)] ∧
  CallF Try.prog 20 #[(.agg #[(.bool c0_2), (.int .i64 c1_2), (.int .i64 c2_2), (.slice c3a2 c3n2 c3c2)])] H_5 fun u H_6 => ∃ r0 : Bool, ∃ r1 : Int, ∃ r2 : Int, ∃ r3a : Option Addr, ∃ r3n : Nat, ∃ r3c : Nat, u = (.agg #[(.bool r0), (.int .i64 r1), (.int .i64 r2), (.slice r3a r3n r3c)]) ∧
  cellAt H_6 wb (wo + 1) = some (.int .i64 v8) ∧
  cellAt H_6 wb (wo + 2) = some (.map v7) ∧
  RunW Try.prog (Instr.mapUpdate 29 (.map v7) (.int .i64 v8) (.agg #[(.bool r0), (.int .i64 r1), (.int .i64 r2), (.slice r3a r3n r3c)])) H_6 fun u1 H_7 =>
  ∃ v9 : Int, cellAt H_7 wb (wo + 1) = some (.int .i64 v9) ∧
  canSet H_7 wb (wo + 1) [(.int .i64 (IntKind.i64.wrap (v9 + 1)))] ∧
  ∀ H_8 : Heap, H_8 = setAll H_7 wb (wo + 1) [(.int .i64 (IntKind.i64.wrap (v9 + 1)))] →
  Inv1 (IntKind.i64.wrap (t55 + 1)) H_8 ∧ mu1 (IntKind.i64.wrap (t55 + 1)) H_8 < mu1 t55 H_3) ∧
  (((decide (t55 < (listn : Int)))) = false →
  K (.tuple #[(.int .i64 v6), (.int .i64 0)]) H_3)

def wire_Put.l2 (wb : Nat) (wo : Nat) (lista : Option Addr) (listn : Nat) (K : Value → Heap → Prop) (Inv : Int → Heap → Prop) (mu : Int → Heap → Nat) (t13 : Int) (H_ : Heap) : Prop :=
  (((decide (t13 < (listn : Int)))) = true →
  ((0 : Int) ≤ t13 ∧ t13 < (listn : Int)) ∧ ∃ b o : Nat, (lista = some ⟨b, o, none⟩) ∧
  ∃ c0 : Bool, ∃ c1 : Int, ∃ c2 : Int, ∃ c3a : Option Addr, ∃ c3n : Nat, ∃ c3c : Nat, cellsAre H_ b (o + t13.toNat * 4) [(.bool c0), (.int .i64 c1), (.int .i64 c2), (.slice c3a c3n c3c)] ∧
  ∀ (b1 : Nat) (H_1 : Heap), b1 = H_.size → H_1 = H_.push (.cells #[(.bool false), (.int .i64 0), (.int .i64 0), (.slice none 0 0)] 37) →
  canSet H_1 b1 0 [(.bool c0), (.int .i64 c1), (.int .i64 c2), (.slice c3a c3n c3c)] ∧
  ∀ H_2 : Heap, H_2 = setAll H_1 b1 0 [(.bool c0), (.int .i64 c1), (.int .i64 c2), (.slice c3a c3n c3c)] →
  ∃ v : Int, cellAt H_2 b1 1 = some (.int .i64 v) ∧
  ∃ v1 : Int, (((decide (v < 0)) = false) → cellAt H_2 b1 1 = some (.int .i64 v1)) ∧
  ∃ v2 : Int, ((((decide (v < 0)) || (decide (64 ≤ v1))) = false) → cellAt H_2 b1 2 = some (.int .i64 v2)) ∧
  ∃ v3 : Int, (((((decide (v < 0)) || (decide (64 ≤ v1))) || (decide (v2 < 0))) = false) → cellAt H_2 b1 2 = some (.int .i64 v3)) ∧
  ((((((decide (v < 0)) || (decide (64 ≤ v1))) || (decide (v2 < 0))) || (decide (4611686018427387903 < v3)))) = true →
  K (.tuple #[(.int .i64 (-1)), (.int .i64 10)]) H_2) ∧
  ((((((decide (v < 0)) || (decide (64 ≤ v1))) || (decide (v2 < 0))) || (decide (4611686018427387903 < v3)))) = false →
  Inv (IntKind.i64.wrap (t13 + 1)) H_2 ∧ mu (IntKind.i64.wrap (t13 + 1)) H_2 < mu t13 H_)) ∧
  (((decide (t13 < (listn : Int)))) = false →
  ∃ v4 : Int, cellAt H_ wb wo = some (.int .i64 v4) ∧
  ∃ v5 : Option Nat, cellAt H_ wb (wo + 2) = some (.map v5) ∧
  ∃ n : Int, ReadRun Try.prog (Builtin.len_ #[29] 3 #[(.map v5)]) H_ (.int .i64 n) ∧
  (((decide ((IntKind.i64.wrap (v4 - n)) < (listn : Int)))) = true →
  K (.tuple #[(.int .i64 (-1)), (.int .i64 20)]) H_) ∧
  (((decide ((IntKind.i64.wrap (v4 - n)) < (listn : Int)))) = false →
  ∃ v6 : Int, cellAt H_ wb (wo + 1) = some (.int .i64 v6) ∧
  ∃ (Inv1 : Int → Heap → Prop) (mu1 : Int → Heap → Nat), Inv1 0 H_ ∧
  ∀ (t55 : Int), ∀ H_3 : Heap, Inv1 t55 H_3 → wire_Put.l1 wb wo lista listn K v6 Inv1 mu1 t55 H_3))

def wire_Put.code (wb : Nat) (wo : Nat) (lista : Option Addr) (listn : Nat) (listc : Nat) (H : Heap) (K : Value → Heap → Prop) : Prop :=
  ∃ (Inv : Int → Heap → Prop) (mu : Int → Heap → Nat), Inv 0 H ∧
  ∀ (t13 : Int), ∀ H_ : Heap, Inv t13 H_ → wire_Put.l2 wb wo lista listn K Inv mu t13 H_

def wire_Put.ann : Ann := (.seq .reg (.seq (.seq .reg (.blk (.loop [(13, .one (.int .i64))] (.seq .reg (.seq (.cond .no .no) (.seq (.blk (.seq .reg (.seq .reg (.cond (.seq .reg .no) .no)))) .reg)))))) (.seq (.seq .reg (.cond (.seq .reg .no) .no)) (.seq .reg (.seq (.seq .reg (.blk (.loop [(55, .one (.int .i64))] (.seq .reg (.seq (.cond .no .no) (.seq (.blk (.seq .reg (.seq .reg .reg))) .reg)))))) (.seq .reg .no))))))

theorem wire_Put.eq (wb : Nat) (wo : Nat) (lista : Option Addr) (listn : Nat) (listc : Nat) (H : Heap) (K : Value → Heap → Prop) : vcFun X Try.f8 wire_Put.ann [(.pointer (some ⟨wb, wo, none⟩)), (.slice lista listn listc)] H K = wire_Put.code wb wo lista listn listc H K := by kernel_rfl

theorem wire_Put.call {wb : Nat} {wo : Nat} {lista : Option Addr} {listn : Nat} {listc : Nat} {H : Heap} {K : Value → Heap → Prop} (h : wire_Put.code wb wo lista listn listc H K) : CallF Try.prog 8 #[(.pointer (some ⟨wb, wo, none⟩)), (.slice lista listn listc)] H K :=
  callF_of_eq (X := X) X_P X_wide X_bodied Try.func8 (wire_Put.eq wb wo lista listn listc H K) h

def wire_New.code (most : Int) (H : Heap) (K : Value → Heap → Prop) : Prop :=
  ((((decide (most < 1)) || (decide (4096 < most)))) = true →
  K (.tuple #[(.pointer none), (.int .i64 11)]) H) ∧
  ((((decide (most < 1)) || (decide (4096 < most)))) = false →
  ∀ (b : Nat) (H_ : Heap), b = H.size → H_ = H.push (.map #[] 0) →
  ∀ (b1 : Nat) (H_1 : Heap), b1 = H_.size → H_1 = H_.push (.cells #[(.int .i64 most), (.int .i64 0), (.map (some b))] 61) →
  K (.tuple #[(.pointer (some ⟨b1, 0, none⟩)), (.int .i64 0)]) H_1)

def wire_New.ann : Ann := (.seq .reg (.seq (.seq .reg (.cond (.seq .reg .no) .no)) (.seq .reg .no)))

theorem wire_New.eq (most : Int) (H : Heap) (K : Value → Heap → Prop) : vcFun X Try.f7 wire_New.ann [(.int .i64 most)] H K = wire_New.code most H K := by kernel_rfl

theorem wire_New.call {most : Int} {H : Heap} {K : Value → Heap → Prop} (h : wire_New.code most H K) : CallF Try.prog 7 #[(.int .i64 most)] H K :=
  callF_of_eq (X := X) X_P X_wide X_bodied Try.func7 (wire_New.eq most H K) h

def great.l1 (callsa : Option Addr) (callsn : Nat) (K : Value → Heap → Prop) (Inv : Int → Heap → Prop) (mu : Int → Heap → Nat) (i : Int) (H_ : Heap) (Inv1 : Int → Heap → Prop) (mu1 : Int → Heap → Nat) (k : Int) (H_1 : Heap) : Prop :=
  ((0 : Int) ≤ i ∧ i < (callsn : Int)) ∧ ∃ b1 o1 : Nat, (callsa = some ⟨b1, o1, none⟩) ∧
  ∃ va1 : Option Addr, ∃ vn1 : Nat, ∃ vc1 : Nat, cellAt H_1 b1 (o1 + i.toNat * 3 + 2) = some (.slice va1 vn1 vc1) ∧
  (((decide (k < (vn1 : Int)))) = true →
  ((0 : Int) ≤ i ∧ i < (callsn : Int)) ∧ ∃ b2 o2 : Nat, (callsa = some ⟨b2, o2, none⟩) ∧
  ∃ va2 : Option Addr, ∃ vn2 : Nat, ∃ vc2 : Nat, cellAt H_1 b2 (o2 + i.toNat * 3 + 2) = some (.slice va2 vn2 vc2) ∧
  ((0 : Int) ≤ k ∧ k < (vn2 : Int)) ∧ ∃ b3 o3 : Nat, (va2 = some ⟨b3, o3, none⟩) ∧
  ∃ va3 : Option Addr, ∃ vn3 : Nat, ∃ vc3 : Nat, cellAt H_1 b3 (o3 + k.toNat * 4 + 3) = some (.slice va3 vn3 vc3) ∧
  (((decide (100 < (vn3 : Int)))) = true →
  K (.bool true) H_1) ∧
  (((decide (100 < (vn3 : Int)))) = false →
  Inv1 (IntKind.i64.wrap (k + 1)) H_1 ∧ mu1 (IntKind.i64.wrap (k + 1)) H_1 < mu1 k H_1)) ∧
  (((decide (k < (vn1 : Int)))) = false →
  Inv (IntKind.i64.wrap (i + 1)) H_1 ∧ mu (IntKind.i64.wrap (i + 1)) H_1 < mu i H_)

def great.l2 (callsa : Option Addr) (callsn : Nat) (K : Value → Heap → Prop) (Inv : Int → Heap → Prop) (mu : Int → Heap → Nat) (i : Int) (H_ : Heap) : Prop :=
  (((decide (i < (callsn : Int)))) = true →
  ((0 : Int) ≤ i ∧ i < (callsn : Int)) ∧ ∃ b o : Nat, (callsa = some ⟨b, o, none⟩) ∧
  ∃ va : Option Addr, ∃ vn : Nat, ∃ vc : Nat, cellAt H_ b (o + i.toNat * 3 + 2) = some (.slice va vn vc) ∧
  (((decide (20 < (vn : Int)))) = true →
  K (.bool true) H_) ∧
  (((decide (20 < (vn : Int)))) = false →
  ∃ (Inv1 : Int → Heap → Prop) (mu1 : Int → Heap → Nat), Inv1 0 H_ ∧
  ∀ (k : Int), ∀ H_1 : Heap, Inv1 k H_1 → great.l1 callsa callsn K Inv mu i H_ Inv1 mu1 k H_1)) ∧
  (((decide (i < (callsn : Int)))) = false →
  K (.bool false) H_)

def great.code (callsa : Option Addr) (callsn : Nat) (callsc : Nat) (H : Heap) (K : Value → Heap → Prop) : Prop :=
  (((decide (60 < (callsn : Int)))) = true →
  K (.bool true) H) ∧
  (((decide (60 < (callsn : Int)))) = false →
  ∃ (Inv : Int → Heap → Prop) (mu : Int → Heap → Nat), Inv 0 H ∧
  ∀ (i : Int), ∀ H_ : Heap, Inv i H_ → great.l2 callsa callsn K Inv mu i H_)

def great.ann : Ann := (.seq .reg (.seq (.seq .reg (.cond (.seq .reg .no) .no)) (.seq (.seq .reg (.blk (.loop [(3, .one (.int .i64))] (.seq (.seq .reg (.cond .no .no)) (.seq (.blk (.seq (.seq .reg (.cond (.seq .reg .no) .no)) (.seq .reg (.blk (.loop [(4, .one (.int .i64))] (.seq (.seq .reg (.cond .no .no)) (.seq (.blk (.seq .reg (.cond (.seq .reg .no) .no))) .reg))))))) .reg))))) (.seq .reg .no))))

theorem great.eq (callsa : Option Addr) (callsn : Nat) (callsc : Nat) (H : Heap) (K : Value → Heap → Prop) : vcFun X Try.f6 great.ann [(.slice callsa callsn callsc)] H K = great.code callsa callsn callsc H K := by kernel_rfl

theorem great.call {callsa : Option Addr} {callsn : Nat} {callsc : Nat} {H : Heap} {K : Value → Heap → Prop} (h : great.code callsa callsn callsc H K) : CallF Try.prog 6 #[(.slice callsa callsn callsc)] H K :=
  callF_of_eq (X := X) X_P X_wide X_bodied Try.func6 (great.eq callsa callsn callsc H K) h

def alive.r1 (K : Value → Heap → Prop) (t0 : Bool) (H_19 : Heap) : Prop :=
  K (.bool t0) H_19

def alive.code  (H : Heap) (K : Value → Heap → Prop) : Prop :=
  CallF Try.prog 7 #[(.int .i64 3)] H fun u H_ => ∃ r : Option Addr, ∃ r1 : Int, u = (.tuple #[(.pointer r), (.int .i64 r1)]) ∧
  ((((!decide (r1 = 0)) || r.isNone)) = true →
  K (.bool false) H_) ∧
  ((((!decide (r1 = 0)) || r.isNone)) = false →
  ∀ (b : Nat) (H_1 : Heap), b = H_.size → H_1 = H_.push (.cells #[(.int .u8 1)] 5) →
  ∀ (b1 : Nat) (H_2 : Heap), b1 = H_1.size → H_2 = H_1.push (.cells #[(.bool true), (.int .i64 3), (.int .i64 5), (.slice (some ⟨b, 0, none⟩) 1 1), (.bool false), (.int .i64 4), (.int .i64 0), (.slice none 0 0)] 37) →
  CallF Try.prog 8 #[(.pointer r), (.slice (some ⟨b1, 0, none⟩) 2 2)] H_2 fun u1 H_3 => ∃ r2 : Int, ∃ r3 : Int, u1 = (.tuple #[(.int .i64 r2), (.int .i64 r3)]) ∧
  CallF Try.prog 12 #[(.pointer r), (.int .i64 0)] H_3 fun u2 H_4 => ∃ r4 : Int, ∃ r5 : Int, u2 = (.tuple #[(.int .i64 r4), (.int .i64 r5)]) ∧
  CallF Try.prog 12 #[(.pointer r), (.int .i64 0)] H_4 fun u3 H_5 => ∃ r6 : Int, ∃ r7 : Int, u3 = (.tuple #[(.int .i64 r6), (.int .i64 r7)]) ∧
  CallF Try.prog 18 #[(.pointer r)] H_5 fun u4 H_6 => ∃ r8 : Option Addr, u4 = (.pointer r8) ∧
  CallF Try.prog 9 #[(.pointer r), (.int .i64 0)] H_6 fun u5 H_7 => ∃ r0 : Bool, ∃ r1_1 : Int, ∃ r2_1 : Int, ∃ r3a : Option Addr, ∃ r3n : Nat, ∃ r3c : Nat, ∃ r9 : Int, u5 = (.tuple #[(.agg #[(.bool r0), (.int .i64 r1_1), (.int .i64 r2_1), (.slice r3a r3n r3c)]), (.int .i64 r9)]) ∧
  ∀ (b2 : Nat) (H_8 : Heap), b2 = H_7.size → H_8 = H_7.push (.cells #[(.bool false), (.int .i64 0), (.int .i64 0), (.slice none 0 0)] 37) →
  canSet H_8 b2 0 [(.bool r0), (.int .i64 r1_1), (.int .i64 r2_1), (.slice r3a r3n r3c)] ∧
  ∀ H_9 : Heap, H_9 = setAll H_8 b2 0 [(.bool r0), (.int .i64 r1_1), (.int .i64 r2_1), (.slice r3a r3n r3c)] →
  CallF Try.prog 9 #[(.pointer r), (.int .i64 0)] H_9 fun u6 H_10 => ∃ r0_1 : Bool, ∃ r1_2 : Int, ∃ r2_2 : Int, ∃ r3a1 : Option Addr, ∃ r3n1 : Nat, ∃ r3c1 : Nat, ∃ r10 : Int, u6 = (.tuple #[(.agg #[(.bool r0_1), (.int .i64 r1_2), (.int .i64 r2_2), (.slice r3a1 r3n1 r3c1)]), (.int .i64 r10)]) ∧
  ∀ (b3 : Nat) (H_11 : Heap), b3 = H_10.size → H_11 = H_10.push (.cells #[(.bool false), (.int .i64 0), (.int .i64 0), (.slice none 0 0)] 37) →
  canSet H_11 b3 0 [(.bool r0_1), (.int .i64 r1_2), (.int .i64 r2_2), (.slice r3a1 r3n1 r3c1)] ∧
  ∀ H_12 : Heap, H_12 = setAll H_11 b3 0 [(.bool r0_1), (.int .i64 r1_2), (.int .i64 r2_2), (.slice r3a1 r3n1 r3c1)] →
  CallF Try.prog 16 #[(.pointer r), (.int .i64 2)] H_12 fun u7 H_13 => ∃ r0_2 : Bool, ∃ r1_3 : Int, ∃ r2_3 : Int, ∃ r3a2 : Option Addr, ∃ r3n2 : Nat, ∃ r3c2 : Nat, ∃ r11 : Bool, u7 = (.tuple #[(.agg #[(.bool r0_2), (.int .i64 r1_3), (.int .i64 r2_3), (.slice r3a2 r3n2 r3c2)]), (.bool r11)]) ∧
  ∀ (b4 : Nat) (H_14 : Heap), b4 = H_13.size → H_14 = H_13.push (.cells #[(.bool false), (.int .i64 0), (.int .i64 0), (.slice none 0 0)] 37) →
  canSet H_14 b4 0 [(.bool r0_2), (.int .i64 r1_3), (.int .i64 r2_3), (.slice r3a2 r3n2 r3c2)] ∧
  ∀ H_15 : Heap, H_15 = setAll H_14 b4 0 [(.bool r0_2), (.int .i64 r1_3), (.int .i64 r2_3), (.slice r3a2 r3n2 r3c2)] →
  CallF Try.prog 16 #[(.pointer r), (.int .i64 0)] H_15 fun u8 H_16 => ∃ r0_3 : Bool, ∃ r1_4 : Int, ∃ r2_4 : Int, ∃ r3a3 : Option Addr, ∃ r3n3 : Nat, ∃ r3c3 : Nat, ∃ r12 : Bool, u8 = (.tuple #[(.agg #[(.bool r0_3), (.int .i64 r1_4), (.int .i64 r2_4), (.slice r3a3 r3n3 r3c3)]), (.bool r12)]) ∧
  ∀ (b5 : Nat) (H_17 : Heap), b5 = H_16.size → H_17 = H_16.push (.cells #[(.bool false), (.int .i64 0), (.int .i64 0), (.slice none 0 0)] 37) →
  canSet H_17 b5 0 [(.bool r0_3), (.int .i64 r1_4), (.int .i64 r2_4), (.slice r3a3 r3n3 r3c3)] ∧
  ∀ H_18 : Heap, H_18 = setAll H_17 b5 0 [(.bool r0_3), (.int .i64 r1_4), (.int .i64 r2_4), (.slice r3a3 r3n3 r3c3)] →
  ((r8.isNone) = true →
  K (.bool false) H_18) ∧
  ((r8.isNone) = false →
  ∀ Jn : Bool → Heap → Prop, (∀ (t0 : Bool), ∀ H_19 : Heap, alive.r1 K t0 H_19 → Jn t0 H_19) →
  ∃ v : Int, (((((((((((decide (r2 = 0)) && (decide (r3 = 0))) && (decide (r4 = 2))) && (decide (r5 = 0))) && (decide (r7 = 20))) && (decide (r9 = 0))) && (decide (r10 = 19))) && r11) && (!r12)) = true) → cellAt H_18 b2 2 = some (.int .i64 v)) ∧
  ∃ v1 : Int, ((((((((((((decide (r2 = 0)) && (decide (r3 = 0))) && (decide (r4 = 2))) && (decide (r5 = 0))) && (decide (r7 = 20))) && (decide (r9 = 0))) && (decide (r10 = 19))) && r11) && (!r12)) && (decide (v = 5))) = true) → cellAt H_18 b4 1 = some (.int .i64 v1)) ∧
  (((((((((((((decide (r2 = 0)) && (decide (r3 = 0))) && (decide (r4 = 2))) && (decide (r5 = 0))) && (decide (r7 = 20))) && (decide (r9 = 0))) && (decide (r10 = 19))) && r11) && (!r12)) && (decide (v = 5))) && (decide (v1 = 3))) = true) →
  CallF Try.prog 13 #[(.pointer r)] H_18 fun u9 H_20 => ∃ ra : Option Addr, ∃ rn : Nat, ∃ rc : Nat, u9 = (.slice ra rn rc) ∧
  ∀ (b6 : Nat) (H_21 : Heap), b6 = H_20.size → H_21 = H_20.push (.cells #[(.int .i64 1), (.int .i64 2)] 2) →
  ∃ r13 : Bool, CallQ Try.prog 19 #[(.slice ra rn rc), (.slice (some ⟨b6, 0, none⟩) 2 2)] H_21 (.bool r13) ∧
  ((r13 = true) →
  CallF Try.prog 13 #[(.pointer r8)] H_21 fun u10 H_22 => ∃ ra1 : Option Addr, ∃ rn1 : Nat, ∃ rc1 : Nat, u10 = (.slice ra1 rn1 rc1) ∧
  ∀ (b7 : Nat) (H_23 : Heap), b7 = H_22.size → H_23 = H_22.push (.cells #[(.int .i64 0), (.int .i64 1), (.int .i64 2)] 2) →
  ∃ r14 : Bool, CallQ Try.prog 19 #[(.slice ra1 rn1 rc1), (.slice (some ⟨b7, 0, none⟩) 3 3)] H_23 (.bool r14) ∧
  ((r14 = true) →
  CallF Try.prog 15 #[(.pointer r), (.bool true), (.int .i64 3)] H_23 fun u11 H_24 => ∃ ra2 : Option Addr, ∃ rn2 : Nat, ∃ rc2 : Nat, u11 = (.slice ra2 rn2 rc2) ∧
  ∀ (b8 : Nat) (H_25 : Heap), b8 = H_24.size → H_25 = H_24.push (.cells #[(.int .i64 2)] 2) →
  ∃ r15 : Bool, CallQ Try.prog 19 #[(.slice ra2 rn2 rc2), (.slice (some ⟨b8, 0, none⟩) 1 1)] H_25 (.bool r15) ∧
  ∃ r16 : Int, ((r15 = true) → CallQ Try.prog 17 #[(.pointer r)] H_25 (.int .i64 r16)) ∧
  Jn (r15 && (decide (r16 = 3))) H_25) ∧
  (¬ (r14 = true) →
  ∃ r17 : Int, ((false = true) → CallQ Try.prog 17 #[(.pointer r)] H_23 (.int .i64 r17)) ∧
  Jn (false && (decide (r17 = 3))) H_23)) ∧
  (¬ (r13 = true) →
  ((false = true) →
  CallF Try.prog 15 #[(.pointer r), (.bool true), (.int .i64 3)] H_21 fun u12 H_26 => ∃ ra3 : Option Addr, ∃ rn3 : Nat, ∃ rc3 : Nat, u12 = (.slice ra3 rn3 rc3) ∧
  ∀ (b9 : Nat) (H_27 : Heap), b9 = H_26.size → H_27 = H_26.push (.cells #[(.int .i64 2)] 2) →
  ∃ r18 : Bool, CallQ Try.prog 19 #[(.slice ra3 rn3 rc3), (.slice (some ⟨b9, 0, none⟩) 1 1)] H_27 (.bool r18) ∧
  ∃ r19 : Int, ((r18 = true) → CallQ Try.prog 17 #[(.pointer r)] H_27 (.int .i64 r19)) ∧
  Jn (r18 && (decide (r19 = 3))) H_27) ∧
  (¬ (false = true) →
  ∃ r20 : Int, ((false = true) → CallQ Try.prog 17 #[(.pointer r)] H_21 (.int .i64 r20)) ∧
  Jn (false && (decide (r20 = 3))) H_21))) ∧
  (¬ ((((((((((((decide (r2 = 0)) && (decide (r3 = 0))) && (decide (r4 = 2))) && (decide (r5 = 0))) && (decide (r7 = 20))) && (decide (r9 = 0))) && (decide (r10 = 19))) && r11) && (!r12)) && (decide (v = 5))) && (decide (v1 = 3))) = true) →
  ((false = true) →
  CallF Try.prog 13 #[(.pointer r8)] H_18 fun u13 H_28 => ∃ ra4 : Option Addr, ∃ rn4 : Nat, ∃ rc4 : Nat, u13 = (.slice ra4 rn4 rc4) ∧
  ∀ (b10 : Nat) (H_29 : Heap), b10 = H_28.size → H_29 = H_28.push (.cells #[(.int .i64 0), (.int .i64 1), (.int .i64 2)] 2) →
  ∃ r21 : Bool, CallQ Try.prog 19 #[(.slice ra4 rn4 rc4), (.slice (some ⟨b10, 0, none⟩) 3 3)] H_29 (.bool r21) ∧
  ((r21 = true) →
  CallF Try.prog 15 #[(.pointer r), (.bool true), (.int .i64 3)] H_29 fun u14 H_30 => ∃ ra5 : Option Addr, ∃ rn5 : Nat, ∃ rc5 : Nat, u14 = (.slice ra5 rn5 rc5) ∧
  ∀ (b11 : Nat) (H_31 : Heap), b11 = H_30.size → H_31 = H_30.push (.cells #[(.int .i64 2)] 2) →
  ∃ r22 : Bool, CallQ Try.prog 19 #[(.slice ra5 rn5 rc5), (.slice (some ⟨b11, 0, none⟩) 1 1)] H_31 (.bool r22) ∧
  ∃ r23 : Int, ((r22 = true) → CallQ Try.prog 17 #[(.pointer r)] H_31 (.int .i64 r23)) ∧
  Jn (r22 && (decide (r23 = 3))) H_31) ∧
  (¬ (r21 = true) →
  ∃ r24 : Int, ((false = true) → CallQ Try.prog 17 #[(.pointer r)] H_29 (.int .i64 r24)) ∧
  Jn (false && (decide (r24 = 3))) H_29)) ∧
  (¬ (false = true) →
  ((false = true) →
  CallF Try.prog 15 #[(.pointer r), (.bool true), (.int .i64 3)] H_18 fun u15 H_32 => ∃ ra6 : Option Addr, ∃ rn6 : Nat, ∃ rc6 : Nat, u15 = (.slice ra6 rn6 rc6) ∧
  ∀ (b12 : Nat) (H_33 : Heap), b12 = H_32.size → H_33 = H_32.push (.cells #[(.int .i64 2)] 2) →
  ∃ r25 : Bool, CallQ Try.prog 19 #[(.slice ra6 rn6 rc6), (.slice (some ⟨b12, 0, none⟩) 1 1)] H_33 (.bool r25) ∧
  ∃ r26 : Int, ((r25 = true) → CallQ Try.prog 17 #[(.pointer r)] H_33 (.int .i64 r26)) ∧
  Jn (r25 && (decide (r26 = 3))) H_33) ∧
  (¬ (false = true) →
  ∃ r27 : Int, ((false = true) → CallQ Try.prog 17 #[(.pointer r)] H_18 (.int .i64 r27)) ∧
  Jn (false && (decide (r27 = 3))) H_18)))))

def alive.ann : Ann := (.seq .reg (.seq .reg (.seq (.seq .reg (.cond (.seq .reg .no) .no)) (.seq .reg (.seq .reg (.seq .reg (.seq .reg (.seq .reg (.seq .reg (.seq .reg (.seq .reg (.seq (.seq .reg (.cond (.seq .reg .no) .no)) (.seq (.regJ [(0, .one (.bool))]) .no)))))))))))))

theorem alive.eq  (H : Heap) (K : Value → Heap → Prop) : vcFun X Try.f5 alive.ann [] H K = alive.code  H K := by kernel_rfl

theorem alive.call  {H : Heap} {K : Value → Heap → Prop} (h : alive.code  H K) : CallF Try.prog 5 #[] H K :=
  callF_of_eq (X := X) X_P X_wide X_bodied Try.func5 (alive.eq  H K) h

def WireDoubles.r1 (K : Value → Heap → Prop) (t6 : Bool) (H_19 : Heap) : Prop :=
  K (.bool t6) H_19

def WireDoubles.l2 (n : Int) (K : Value → Heap → Prop) (r1 : Bool) (r2 : Option Addr) (Inv1 : Int → Int → Heap → Prop) (mu1 : Int → Int → Heap → Nat) (all : Int) (a : Int) (H_5 : Heap) : Prop :=
  (((decide (a < 64))) = true →
  CallF Try.prog 15 #[(.pointer r2), (.bool true), (.int .i64 a)] H_5 fun u3 H_6 => ∃ ra : Option Addr, ∃ rn : Nat, ∃ rc : Nat, u3 = (.slice ra rn rc) ∧
  CallF Try.prog 15 #[(.pointer r2), (.bool false), (.int .i64 a)] H_6 fun u4 H_7 => ∃ ra1 : Option Addr, ∃ rn1 : Nat, ∃ rc1 : Nat, u4 = (.slice ra1 rn1 rc1) ∧
  Inv1 (IntKind.i64.wrap (all + (IntKind.i64.wrap ((rn : Int) + (rn1 : Int))))) (IntKind.i64.wrap (a + 1)) H_7 ∧ mu1 (IntKind.i64.wrap (all + (IntKind.i64.wrap ((rn : Int) + (rn1 : Int))))) (IntKind.i64.wrap (a + 1)) H_7 < mu1 all a H_5) ∧
  (((decide (a < 64))) = false →
  CallF Try.prog 13 #[(.pointer r2)] H_5 fun u5 H_8 => ∃ ra2 : Option Addr, ∃ rn2 : Nat, ∃ rc2 : Nat, u5 = (.slice ra2 rn2 rc2) ∧
  (((!decide (all = (rn2 : Int)))) = true →
  K (.bool false) H_8) ∧
  (((!decide (all = (rn2 : Int)))) = false →
  CallF Try.prog 16 #[(.pointer r2), (.int .i64 n)] H_8 fun u6 H_9 => ∃ r0 : Bool, ∃ r1_1 : Int, ∃ r2_1 : Int, ∃ r3a : Option Addr, ∃ r3n : Nat, ∃ r3c : Nat, ∃ r5 : Bool, u6 = (.tuple #[(.agg #[(.bool r0), (.int .i64 r1_1), (.int .i64 r2_1), (.slice r3a r3n r3c)]), (.bool r5)]) ∧
  ∀ (b2 : Nat) (H_10 : Heap), b2 = H_9.size → H_10 = H_9.push (.cells #[(.bool false), (.int .i64 0), (.int .i64 0), (.slice none 0 0)] 37) →
  canSet H_10 b2 0 [(.bool r0), (.int .i64 r1_1), (.int .i64 r2_1), (.slice r3a r3n r3c)] ∧
  ∀ H_11 : Heap, H_11 = setAll H_10 b2 0 [(.bool r0), (.int .i64 r1_1), (.int .i64 r2_1), (.slice r3a r3n r3c)] →
  CallF Try.prog 12 #[(.pointer r2), (.int .i64 n)] H_11 fun u7 H_12 => ∃ r6 : Int, ∃ r7 : Int, u7 = (.tuple #[(.int .i64 r6), (.int .i64 r7)]) ∧
  (((!decide (r7 = 0))) = true →
  K (.bool ((decide (r6 = (-1))) && ((decide (r7 = 19)) == (!r5)))) H_12) ∧
  (((!decide (r7 = 0))) = false →
  CallF Try.prog 9 #[(.pointer r2), (.int .i64 n)] H_12 fun u8 H_13 => ∃ r0_1 : Bool, ∃ r1_2 : Int, ∃ r2_2 : Int, ∃ r3a1 : Option Addr, ∃ r3n1 : Nat, ∃ r3c1 : Nat, ∃ r8 : Int, u8 = (.tuple #[(.agg #[(.bool r0_1), (.int .i64 r1_2), (.int .i64 r2_2), (.slice r3a1 r3n1 r3c1)]), (.int .i64 r8)]) ∧
  ∀ (b3 : Nat) (H_14 : Heap), b3 = H_13.size → H_14 = H_13.push (.cells #[(.bool false), (.int .i64 0), (.int .i64 0), (.slice none 0 0)] 37) →
  canSet H_14 b3 0 [(.bool r0_1), (.int .i64 r1_2), (.int .i64 r2_2), (.slice r3a1 r3n1 r3c1)] ∧
  ∀ H_15 : Heap, H_15 = setAll H_14 b3 0 [(.bool r0_1), (.int .i64 r1_2), (.int .i64 r2_2), (.slice r3a1 r3n1 r3c1)] →
  CallF Try.prog 9 #[(.pointer r2), (.int .i64 r6)] H_15 fun u9 H_16 => ∃ r0_2 : Bool, ∃ r1_3 : Int, ∃ r2_3 : Int, ∃ r3a2 : Option Addr, ∃ r3n2 : Nat, ∃ r3c2 : Nat, ∃ r9 : Int, u9 = (.tuple #[(.agg #[(.bool r0_2), (.int .i64 r1_3), (.int .i64 r2_3), (.slice r3a2 r3n2 r3c2)]), (.int .i64 r9)]) ∧
  ∀ (b4 : Nat) (H_17 : Heap), b4 = H_16.size → H_17 = H_16.push (.cells #[(.bool false), (.int .i64 0), (.int .i64 0), (.slice none 0 0)] 37) →
  canSet H_17 b4 0 [(.bool r0_2), (.int .i64 r1_3), (.int .i64 r2_3), (.slice r3a2 r3n2 r3c2)] ∧
  ∀ H_18 : Heap, H_18 = setAll H_17 b4 0 [(.bool r0_2), (.int .i64 r1_3), (.int .i64 r2_3), (.slice r3a2 r3n2 r3c2)] →
  ∀ Jn : Bool → Heap → Prop, (∀ (t6 : Bool), ∀ H_19 : Heap, WireDoubles.r1 K t6 H_19 → Jn t6 H_19) →
  ∃ r10 : Int, ((r5 = true) → CallQ Try.prog 17 #[(.pointer r2)] H_18 (.int .i64 r10)) ∧
  ∃ c0_1 : Bool, ∃ c1_1 : Int, ∃ c2 : Int, ∃ c3a : Option Addr, ∃ c3n : Nat, ∃ c3c : Nat, (((((r5 && (decide (r6 = (IntKind.i64.wrap (r10 - 1))))) && (decide (r8 = 0))) && (decide (r9 = 0))) = true) → cellsAre H_18 b3 0 [(.bool c0_1), (.int .i64 c1_1), (.int .i64 c2), (.slice c3a c3n c3c)]) ∧
  ∃ c0_2 : Bool, ∃ c1_2 : Int, ∃ c2_1 : Int, ∃ c3a1 : Option Addr, ∃ c3n1 : Nat, ∃ c3c1 : Nat, (((((r5 && (decide (r6 = (IntKind.i64.wrap (r10 - 1))))) && (decide (r8 = 0))) && (decide (r9 = 0))) = true) → cellsAre H_18 b2 0 [(.bool c0_2), (.int .i64 c1_2), (.int .i64 c2_1), (.slice c3a1 c3n1 c3c1)]) ∧
  (((((r5 && (decide (r6 = (IntKind.i64.wrap (r10 - 1))))) && (decide (r8 = 0))) && (decide (r9 = 0))) = true) →
  ∀ (b5 : Nat) (H_20 : Heap), b5 = H_18.size → H_20 = H_18.push (.cells #[(.bool c0_2), (.int .i64 c1_2), (.int .i64 c2_1), (.slice c3a1 c3n1 c3c1)] 37) →
  (((((r5 && (decide (r6 = (IntKind.i64.wrap (r10 - 1))))) && (decide (r8 = 0))) && (decide (r9 = 0))) = true) → cellsAre H_20 b3 0 [(.bool c0_1), (.int .i64 c1_1), (.int .i64 c2), (.slice c3a c3n c3c)]) ∧
  CallF Try.prog 11 #[(.slice (some ⟨b5, 0, none⟩) 1 1)] H_20 fun u10 H_21 => ∃ ra3 : Option Addr, ∃ rn3 : Nat, ∃ rc3 : Nat, u10 = (.slice ra3 rn3 rc3) ∧
  (((((r5 && (decide (r6 = (IntKind.i64.wrap (r10 - 1))))) && (decide (r8 = 0))) && (decide (r9 = 0))) = true) → cellsAre H_21 b3 0 [(.bool c0_1), (.int .i64 c1_1), (.int .i64 c2), (.slice c3a c3n c3c)]) ∧
  ((0 : Int) ≤ 0 ∧ 0 < (rn3 : Int)) ∧ ∃ b6 o1 : Nat, (ra3 = some ⟨b6, o1, none⟩) ∧
  ∃ c0_3 : Bool, ∃ c1_3 : Int, ∃ c2_2 : Int, ∃ c3a2 : Option Addr, ∃ c3n2 : Nat, ∃ c3c2 : Nat, cellsAre H_21 b6 (o1 + 0 * 4) [(.bool c0_3), (.int .i64 c1_3), (.int .i64 c2_2), (.slice c3a2 c3n2 c3c2)] ∧
  CallF Try.prog 10 #[(.agg #[(.bool c0_1), (.int .i64 c1_1), (.int .i64 c2), (.slice c3a c3n c3c)]), (.agg #[(.bool c0_3), (.int .i64 c1_3), (.int .i64 c2_2), (.slice c3a2 c3n2 c3c2)])] H_21 fun u11 H_22 => ∃ r11 : Bool, u11 = (.bool r11) ∧
  ∃ c0_4 : Bool, ∃ c1_4 : Int, ∃ c2_3 : Int, ∃ c3a3 : Option Addr, ∃ c3n3 : Nat, ∃ c3c3 : Nat, ((r11 = true) → cellsAre H_22 b4 0 [(.bool c0_4), (.int .i64 c1_4), (.int .i64 c2_3), (.slice c3a3 c3n3 c3c3)]) ∧
  ∃ c0_5 : Bool, ∃ c1_5 : Int, ∃ c2_4 : Int, ∃ c3a4 : Option Addr, ∃ c3n4 : Nat, ∃ c3c4 : Nat, ((r11 = true) → cellsAre H_22 b2 0 [(.bool c0_5), (.int .i64 c1_5), (.int .i64 c2_4), (.slice c3a4 c3n4 c3c4)]) ∧
  ((r11 = true) →
  ∀ (b7 : Nat) (H_23 : Heap), b7 = H_22.size → H_23 = H_22.push (.cells #[(.bool c0_5), (.int .i64 c1_5), (.int .i64 c2_4), (.slice c3a4 c3n4 c3c4)] 37) →
  ((r11 = true) → cellsAre H_23 b4 0 [(.bool c0_4), (.int .i64 c1_4), (.int .i64 c2_3), (.slice c3a3 c3n3 c3c3)]) ∧
  CallF Try.prog 11 #[(.slice (some ⟨b7, 0, none⟩) 1 1)] H_23 fun u12 H_24 => ∃ ra4 : Option Addr, ∃ rn4 : Nat, ∃ rc4 : Nat, u12 = (.slice ra4 rn4 rc4) ∧
  ((r11 = true) → cellsAre H_24 b4 0 [(.bool c0_4), (.int .i64 c1_4), (.int .i64 c2_3), (.slice c3a3 c3n3 c3c3)]) ∧
  ((0 : Int) ≤ 0 ∧ 0 < (rn4 : Int)) ∧ ∃ b8 o2 : Nat, (ra4 = some ⟨b8, o2, none⟩) ∧
  ∃ c0_6 : Bool, ∃ c1_6 : Int, ∃ c2_5 : Int, ∃ c3a5 : Option Addr, ∃ c3n5 : Nat, ∃ c3c5 : Nat, cellsAre H_24 b8 (o2 + 0 * 4) [(.bool c0_6), (.int .i64 c1_6), (.int .i64 c2_5), (.slice c3a5 c3n5 c3c5)] ∧
  CallF Try.prog 10 #[(.agg #[(.bool c0_4), (.int .i64 c1_4), (.int .i64 c2_3), (.slice c3a3 c3n3 c3c3)]), (.agg #[(.bool c0_6), (.int .i64 c1_6), (.int .i64 c2_5), (.slice c3a5 c3n5 c3c5)])] H_24 fun u13 H_25 => ∃ r12 : Bool, u13 = (.bool r12) ∧
  ((r12 = true) →
  CallF Try.prog 13 #[(.pointer r2)] H_25 fun u14 H_26 => ∃ ra5 : Option Addr, ∃ rn5 : Nat, ∃ rc5 : Nat, u14 = (.slice ra5 rn5 rc5) ∧
  Jn (decide ((rn5 : Int) = (IntKind.i64.wrap (all - 1)))) H_26) ∧
  (¬ (r12 = true) →
  Jn false H_25)) ∧
  (¬ (r11 = true) →
  ((r11 = true) → cellsAre H_22 b4 0 [(.bool c0_4), (.int .i64 c1_4), (.int .i64 c2_3), (.slice c3a3 c3n3 c3c3)]) ∧
  ((r11 = true) → cellsAre H_22 b4 0 [(.bool c0_4), (.int .i64 c1_4), (.int .i64 c2_3), (.slice c3a3 c3n3 c3c3)]) ∧
  ((false = true) →
  CallF Try.prog 13 #[(.pointer r2)] H_22 fun u15 H_27 => ∃ ra6 : Option Addr, ∃ rn6 : Nat, ∃ rc6 : Nat, u15 = (.slice ra6 rn6 rc6) ∧
  Jn (decide ((rn6 : Int) = (IntKind.i64.wrap (all - 1)))) H_27) ∧
  (¬ (false = true) →
  Jn false H_22))) ∧
  (¬ ((((r5 && (decide (r6 = (IntKind.i64.wrap (r10 - 1))))) && (decide (r8 = 0))) && (decide (r9 = 0))) = true) →
  (((((r5 && (decide (r6 = (IntKind.i64.wrap (r10 - 1))))) && (decide (r8 = 0))) && (decide (r9 = 0))) = true) → cellsAre H_18 b3 0 [(.bool c0_1), (.int .i64 c1_1), (.int .i64 c2), (.slice c3a c3n c3c)]) ∧
  (((((r5 && (decide (r6 = (IntKind.i64.wrap (r10 - 1))))) && (decide (r8 = 0))) && (decide (r9 = 0))) = true) → cellsAre H_18 b3 0 [(.bool c0_1), (.int .i64 c1_1), (.int .i64 c2), (.slice c3a c3n c3c)]) ∧
  ∃ c0_7 : Bool, ∃ c1_7 : Int, ∃ c2_6 : Int, ∃ c3a6 : Option Addr, ∃ c3n6 : Nat, ∃ c3c6 : Nat, ((false = true) → cellsAre H_18 b4 0 [(.bool c0_7), (.int .i64 c1_7), (.int .i64 c2_6), (.slice c3a6 c3n6 c3c6)]) ∧
  ∃ c0_8 : Bool, ∃ c1_8 : Int, ∃ c2_7 : Int, ∃ c3a7 : Option Addr, ∃ c3n7 : Nat, ∃ c3c7 : Nat, ((false = true) → cellsAre H_18 b2 0 [(.bool c0_8), (.int .i64 c1_8), (.int .i64 c2_7), (.slice c3a7 c3n7 c3c7)]) ∧
  ((false = true) →
  ∀ (b9 : Nat) (H_28 : Heap), b9 = H_18.size → H_28 = H_18.push (.cells #[(.bool c0_8), (.int .i64 c1_8), (.int .i64 c2_7), (.slice c3a7 c3n7 c3c7)] 37) →
  ((false = true) → cellsAre H_28 b4 0 [(.bool c0_7), (.int .i64 c1_7), (.int .i64 c2_6), (.slice c3a6 c3n6 c3c6)]) ∧
  CallF Try.prog 11 #[(.slice (some ⟨b9, 0, none⟩) 1 1)] H_28 fun u16 H_29 => ∃ ra7 : Option Addr, ∃ rn7 : Nat, ∃ rc7 : Nat, u16 = (.slice ra7 rn7 rc7) ∧
  ((false = true) → cellsAre H_29 b4 0 [(.bool c0_7), (.int .i64 c1_7), (.int .i64 c2_6), (.slice c3a6 c3n6 c3c6)]) ∧
  ((0 : Int) ≤ 0 ∧ 0 < (rn7 : Int)) ∧ ∃ b10 o3 : Nat, (ra7 = some ⟨b10, o3, none⟩) ∧
  ∃ c0_9 : Bool, ∃ c1_9 : Int, ∃ c2_8 : Int, ∃ c3a8 : Option Addr, ∃ c3n8 : Nat, ∃ c3c8 : Nat, cellsAre H_29 b10 (o3 + 0 * 4) [(.bool c0_9), (.int .i64 c1_9), (.int .i64 c2_8), (.slice c3a8 c3n8 c3c8)] ∧
  CallF Try.prog 10 #[(.agg #[(.bool c0_7), (.int .i64 c1_7), (.int .i64 c2_6), (.slice c3a6 c3n6 c3c6)]), (.agg #[(.bool c0_9), (.int .i64 c1_9), (.int .i64 c2_8), (.slice c3a8 c3n8 c3c8)])] H_29 fun u17 H_30 => ∃ r13 : Bool, u17 = (.bool r13) ∧
  ((r13 = true) →
  CallF Try.prog 13 #[(.pointer r2)] H_30 fun u18 H_31 => ∃ ra8 : Option Addr, ∃ rn8 : Nat, ∃ rc8 : Nat, u18 = (.slice ra8 rn8 rc8) ∧
  Jn (decide ((rn8 : Int) = (IntKind.i64.wrap (all - 1)))) H_31) ∧
  (¬ (r13 = true) →
  Jn false H_30)) ∧
  (¬ (false = true) →
  ((false = true) → cellsAre H_18 b4 0 [(.bool c0_7), (.int .i64 c1_7), (.int .i64 c2_6), (.slice c3a6 c3n6 c3c6)]) ∧
  ((false = true) → cellsAre H_18 b4 0 [(.bool c0_7), (.int .i64 c1_7), (.int .i64 c2_6), (.slice c3a6 c3n6 c3c6)]) ∧
  ((false = true) →
  CallF Try.prog 13 #[(.pointer r2)] H_18 fun u19 H_32 => ∃ ra9 : Option Addr, ∃ rn9 : Nat, ∃ rc9 : Nat, u19 = (.slice ra9 rn9 rc9) ∧
  Jn (decide ((rn9 : Int) = (IntKind.i64.wrap (all - 1)))) H_32) ∧
  (¬ (false = true) →
  Jn false H_18))))))

def WireDoubles.l3 (most : Int) (callsa : Option Addr) (callsn : Nat) (n : Int) (K : Value → Heap → Prop) (r1 : Bool) (r2 : Option Addr) (Inv : Int → Heap → Prop) (mu : Int → Heap → Nat) (i : Int) (H_2 : Heap) : Prop :=
  (((decide (i < (callsn : Int)))) = true →
  ∀ (b : Nat) (H_3 : Heap), b = H_2.size → H_3 = H_2.push (.cells #[(.int .i64 most), (.slice none 0 0)] 53) →
  ((0 : Int) ≤ i ∧ i < (callsn : Int)) ∧ ∃ b1 o : Nat, (callsa = some ⟨b1, o, none⟩) ∧
  ∃ c0 : Int, ∃ c1 : Int, ∃ c2a : Option Addr, ∃ c2n : Nat, ∃ c2c : Nat, cellsAre H_3 b1 (o + i.toNat * 3) [(.int .i64 c0), (.int .i64 c1), (.slice c2a c2n c2c)] ∧
  CallF Try.prog 14 #[(.pointer r2), (.pointer (some ⟨b, 0, none⟩)), (.agg #[(.int .i64 c0), (.int .i64 c1), (.slice c2a c2n c2c)])] H_3 fun u2 H_4 => ∃ r4 : Bool, u2 = (.bool r4) ∧
  Inv (IntKind.i64.wrap (i + 1)) H_4 ∧ mu (IntKind.i64.wrap (i + 1)) H_4 < mu i H_2) ∧
  (((decide (i < (callsn : Int)))) = false →
  ∃ (Inv1 : Int → Int → Heap → Prop) (mu1 : Int → Int → Heap → Nat), Inv1 0 0 H_2 ∧
  ∀ (all : Int) (a : Int), ∀ H_5 : Heap, Inv1 all a H_5 → WireDoubles.l2 n K r1 r2 Inv1 mu1 all a H_5)

def WireDoubles.code (most : Int) (callsa : Option Addr) (callsn : Nat) (callsc : Nat) (n : Int) (H : Heap) (K : Value → Heap → Prop) : Prop :=
  CallF Try.prog 5 #[] H fun u H_ => ∃ r : Bool, u = (.bool r) ∧
  (((!r)) = true →
  K (.bool false) H_) ∧
  (((!r)) = false →
  ∃ r1 : Bool, CallQ Try.prog 6 #[(.slice callsa callsn callsc)] H_ (.bool r1) ∧
  ((r1) = true →
  K (.bool true) H_) ∧
  ((r1) = false →
  CallF Try.prog 7 #[(.int .i64 most)] H_ fun u1 H_1 => ∃ r2 : Option Addr, ∃ r3 : Int, u1 = (.tuple #[(.pointer r2), (.int .i64 r3)]) ∧
  ((((!decide (r3 = 0)) || r2.isNone)) = true →
  K (.bool r2.isNone) H_1) ∧
  ((((!decide (r3 = 0)) || r2.isNone)) = false →
  ∃ (Inv : Int → Heap → Prop) (mu : Int → Heap → Nat), Inv 0 H_1 ∧
  ∀ (i : Int), ∀ H_2 : Heap, Inv i H_2 → WireDoubles.l3 most callsa callsn n K r1 r2 Inv mu i H_2)))

def WireDoubles.ann : Ann := (.seq .reg (.seq (.seq .reg (.cond (.seq .reg .no) .no)) (.seq (.seq .reg (.cond (.seq .reg .no) .no)) (.seq .reg (.seq (.seq .reg (.cond (.seq .reg .no) .no)) (.seq (.seq .reg (.blk (.loop [(9, .one (.int .i64))] (.seq (.seq .reg (.cond .no .no)) (.seq (.blk .reg) .reg))))) (.seq .reg (.seq (.seq .reg (.blk (.loop [(10, .one (.int .i64)), (11, .one (.int .i64))] (.seq (.seq .reg (.cond .no .no)) (.seq (.blk .reg) .reg))))) (.seq (.seq .reg (.cond (.seq .reg .no) .no)) (.seq .reg (.seq .reg (.seq (.seq .reg (.cond (.seq .reg .no) .no)) (.seq .reg (.seq .reg (.seq (.regJ [(6, .one (.bool))]) .no)))))))))))))))

theorem WireDoubles.eq (most : Int) (callsa : Option Addr) (callsn : Nat) (callsc : Nat) (n : Int) (H : Heap) (K : Value → Heap → Prop) : vcFun X Try.f4 WireDoubles.ann [(.int .i64 most), (.slice callsa callsn callsc), (.int .i64 n)] H K = WireDoubles.code most callsa callsn callsc n H K := by kernel_rfl

theorem WireDoubles.call {most : Int} {callsa : Option Addr} {callsn : Nat} {callsc : Nat} {n : Int} {H : Heap} {K : Value → Heap → Prop} (h : WireDoubles.code most callsa callsn callsc n H K) : CallF Try.prog 4 #[(.int .i64 most), (.slice callsa callsn callsc), (.int .i64 n)] H K :=
  callF_of_eq (X := X) X_P X_wide X_bodied Try.func4 (WireDoubles.eq most callsa callsn callsc n H K) h

def WireOnce.r1 (most : Int) (K : Value → Heap → Prop) (r2 : Option Addr) (b : Nat) (Inv : Int → Heap → Prop) (mu : Int → Heap → Nat) (i : Int) (H_3 : Heap) (H_6 : Heap) : Prop :=
  CallF Try.prog 13 #[(.pointer r2)] H_6 fun u2 H_7 => ∃ ra : Option Addr, ∃ rn : Nat, ∃ rc : Nat, u2 = (.slice ra rn rc) ∧
  ∃ n : Int, ReadRun Try.prog (Builtin.len_ #[29] 3 #[(.map (some b))]) H_7 (.int .i64 n) ∧
  ∃ n1 : Int, (((!decide ((rn : Int) = n)) = false) → ReadRun Try.prog (Builtin.len_ #[29] 3 #[(.map (some b))]) H_7 (.int .i64 n1)) ∧
  ((((!decide ((rn : Int) = n)) || (decide (most < n1)))) = true →
  K (.bool false) H_7) ∧
  ((((!decide ((rn : Int) = n)) || (decide (most < n1)))) = false →
  Inv (IntKind.i64.wrap (i + 1)) H_7 ∧ mu (IntKind.i64.wrap (i + 1)) H_7 < mu i H_3)

def WireOnce.l2 (b : Nat) (b2 : Nat) (Jn : Heap → Prop) (r4 : Int) (r5 : Int) (Inv1 : Int → Heap → Prop) (mu1 : Int → Heap → Nat) (k : Int) (H_9 : Heap) : Prop :=
  ∃ va1 : Option Addr, ∃ vn1 : Nat, ∃ vc1 : Nat, (((decide (r5 = 0)) = true) → cellAt H_9 b2 2 = some (.slice va1 vn1 vc1)) ∧
  ((((decide (r5 = 0)) && (decide (k < (vn1 : Int))))) = true →
  ∃ va2 : Option Addr, ∃ vn2 : Nat, ∃ vc2 : Nat, cellAt H_9 b2 2 = some (.slice va2 vn2 vc2) ∧
  ((0 : Int) ≤ k ∧ k < (vn2 : Int)) ∧ ∃ b3 o1 : Nat, (va2 = some ⟨b3, o1, none⟩) ∧
  ∃ c0_1 : Bool, ∃ c1_1 : Int, ∃ c2 : Int, ∃ c3a : Option Addr, ∃ c3n : Nat, ∃ c3c : Nat, cellsAre H_9 b3 (o1 + k.toNat * 4) [(.bool c0_1), (.int .i64 c1_1), (.int .i64 c2), (.slice c3a c3n c3c)] ∧
  RunW Try.prog (Instr.mapUpdate 29 (.map (some b)) (.int .i64 (IntKind.i64.wrap (r4 + k))) (.agg #[(.bool c0_1), (.int .i64 c1_1), (.int .i64 c2), (.slice c3a c3n c3c)])) H_9 fun u4 H_10 =>
  Inv1 (IntKind.i64.wrap (k + 1)) H_10 ∧ mu1 (IntKind.i64.wrap (k + 1)) H_10 < mu1 k H_9) ∧
  ((((decide (r5 = 0)) && (decide (k < (vn1 : Int))))) = false →
  Jn H_9)

def WireOnce.r3 (Jn : Heap → Prop) (H_11 : Heap) : Prop :=
  Jn H_11

def WireOnce.r4 (K : Value → Heap → Prop) (b : Nat) (b2 : Nat) (Jn1 : Heap → Prop) (t112 : Bool) (H_17 : Heap) : Prop :=
  ((t112) = true →
  K (.bool false) H_17) ∧
  ((t112) = false →
  ∃ v3 : Int, cellAt H_17 b2 1 = some (.int .i64 v3) ∧
  RunW Try.prog (Builtin.delete_ #[29, 2] 0 #[(.map (some b)), (.int .i64 v3)]) H_17 fun u6 H_18 =>
  Jn1 H_18)

def WireOnce.r5 (Jn1 : Heap → Prop) (H_22 : Heap) : Prop :=
  Jn1 H_22

def WireOnce.r6 (Jn3 : Heap → Prop) (H_26 : Heap) : Prop :=
  Jn3 H_26

def WireOnce.l7 (most : Int) (callsa : Option Addr) (callsn : Nat) (K : Value → Heap → Prop) (r1 : Bool) (r2 : Option Addr) (r3 : Int) (b : Nat) (Inv : Int → Heap → Prop) (mu : Int → Heap → Nat) (i : Int) (H_3 : Heap) : Prop :=
  (((decide (i < (callsn : Int)))) = true →
  ((0 : Int) ≤ i ∧ i < (callsn : Int)) ∧ ∃ b1 o : Nat, (callsa = some ⟨b1, o, none⟩) ∧
  ∃ c0 : Int, ∃ c1 : Int, ∃ c2a : Option Addr, ∃ c2n : Nat, ∃ c2c : Nat, cellsAre H_3 b1 (o + i.toNat * 3) [(.int .i64 c0), (.int .i64 c1), (.slice c2a c2n c2c)] ∧
  ∀ (b2 : Nat) (H_4 : Heap), b2 = H_3.size → H_4 = H_3.push (.cells #[(.int .i64 0), (.int .i64 0), (.slice none 0 0)] 32) →
  canSet H_4 b2 0 [(.int .i64 c0), (.int .i64 c1), (.slice c2a c2n c2c)] ∧
  ∀ H_5 : Heap, H_5 = setAll H_4 b2 0 [(.int .i64 c0), (.int .i64 c1), (.slice c2a c2n c2c)] →
  ∃ v : Int, cellAt H_5 b2 0 = some (.int .i64 v) ∧
  ∀ Jn : Heap → Prop, (∀ H_6 : Heap, WireOnce.r1 most K r2 b Inv mu i H_3 H_6 → Jn H_6) →
  (((decide (v = 0))) = true →
  ∃ va : Option Addr, ∃ vn : Nat, ∃ vc : Nat, cellAt H_5 b2 2 = some (.slice va vn vc) ∧
  CallF Try.prog 8 #[(.pointer r2), (.slice va vn vc)] H_5 fun u3 H_8 => ∃ r4 : Int, ∃ r5 : Int, u3 = (.tuple #[(.int .i64 r4), (.int .i64 r5)]) ∧
  ∃ (Inv1 : Int → Heap → Prop) (mu1 : Int → Heap → Nat), Inv1 0 H_8 ∧
  ∀ (k : Int), ∀ H_9 : Heap, Inv1 k H_9 → WireOnce.l2 b b2 Jn r4 r5 Inv1 mu1 k H_9) ∧
  (((decide (v = 0))) = false →
  ∀ Jn1 : Heap → Prop, (∀ H_11 : Heap, WireOnce.r3 Jn H_11 → Jn1 H_11) →
  (((decide (v = 1))) = true →
  ∃ v1 : Int, cellAt H_5 b2 1 = some (.int .i64 v1) ∧
  CallF Try.prog 9 #[(.pointer r2), (.int .i64 v1)] H_5 fun u5 H_12 => ∃ r0 : Bool, ∃ r1_1 : Int, ∃ r2_1 : Int, ∃ r3a : Option Addr, ∃ r3n : Nat, ∃ r3c : Nat, ∃ r6 : Int, u5 = (.tuple #[(.agg #[(.bool r0), (.int .i64 r1_1), (.int .i64 r2_1), (.slice r3a r3n r3c)]), (.int .i64 r6)]) ∧
  ∀ (b4 : Nat) (H_13 : Heap), b4 = H_12.size → H_13 = H_12.push (.cells #[(.bool false), (.int .i64 0), (.int .i64 0), (.slice none 0 0)] 37) →
  canSet H_13 b4 0 [(.bool r0), (.int .i64 r1_1), (.int .i64 r2_1), (.slice r3a r3n r3c)] ∧
  ∀ H_14 : Heap, H_14 = setAll H_13 b4 0 [(.bool r0), (.int .i64 r1_1), (.int .i64 r2_1), (.slice r3a r3n r3c)] →
  ∃ v2 : Int, cellAt H_14 b2 1 = some (.int .i64 v2) ∧
  ∃ m0 : Bool, ∃ m1 : Int, ∃ m2 : Int, ∃ m3a : Option Addr, ∃ m3n : Nat, ∃ m3c : Nat, ∃ there : Bool, ReadRun Try.prog (Instr.lookup 29 (.map (some b)) (.int .i64 v2) true) H_14 (.tuple #[(.agg #[(.bool m0), (.int .i64 m1), (.int .i64 m2), (.slice m3a m3n m3c)]), (.bool there)]) ∧
  ∀ (b5 : Nat) (H_15 : Heap), b5 = H_14.size → H_15 = H_14.push (.cells #[(.bool false), (.int .i64 0), (.int .i64 0), (.slice none 0 0)] 37) →
  canSet H_15 b5 0 [(.bool m0), (.int .i64 m1), (.int .i64 m2), (.slice m3a m3n m3c)] ∧
  ∀ H_16 : Heap, H_16 = setAll H_15 b5 0 [(.bool m0), (.int .i64 m1), (.int .i64 m2), (.slice m3a m3n m3c)] →
  ∀ Jn2 : Bool → Heap → Prop, (∀ (t112 : Bool), ∀ H_17 : Heap, WireOnce.r4 K b b2 Jn1 t112 H_17 → Jn2 t112 H_17) →
  ∃ c0_2 : Bool, ∃ c1_2 : Int, ∃ c2_1 : Int, ∃ c3a1 : Option Addr, ∃ c3n1 : Nat, ∃ c3c1 : Nat, ((((!((decide (r6 = 0)) == there)) = false) ∧ there = true) → cellsAre H_16 b4 0 [(.bool c0_2), (.int .i64 c1_2), (.int .i64 c2_1), (.slice c3a1 c3n1 c3c1)]) ∧
  ∃ c0_3 : Bool, ∃ c1_3 : Int, ∃ c2_2 : Int, ∃ c3a2 : Option Addr, ∃ c3n2 : Nat, ∃ c3c2 : Nat, ((((!((decide (r6 = 0)) == there)) = false) ∧ there = true) → cellsAre H_16 b5 0 [(.bool c0_3), (.int .i64 c1_3), (.int .i64 c2_2), (.slice c3a2 c3n2 c3c2)]) ∧
  ((((!((decide (r6 = 0)) == there)) = false) ∧ there = true) →
  ∀ (b6 : Nat) (H_19 : Heap), b6 = H_16.size → H_19 = H_16.push (.cells #[(.bool c0_3), (.int .i64 c1_3), (.int .i64 c2_2), (.slice c3a2 c3n2 c3c2)] 37) →
  ((((!((decide (r6 = 0)) == there)) = false) ∧ there = true) → cellsAre H_19 b4 0 [(.bool c0_2), (.int .i64 c1_2), (.int .i64 c2_1), (.slice c3a1 c3n1 c3c1)]) ∧
  CallF Try.prog 11 #[(.slice (some ⟨b6, 0, none⟩) 1 1)] H_19 fun u7 H_20 => ∃ ra1 : Option Addr, ∃ rn1 : Nat, ∃ rc1 : Nat, u7 = (.slice ra1 rn1 rc1) ∧
  ((((!((decide (r6 = 0)) == there)) = false) ∧ there = true) → cellsAre H_20 b4 0 [(.bool c0_2), (.int .i64 c1_2), (.int .i64 c2_1), (.slice c3a1 c3n1 c3c1)]) ∧
  ((0 : Int) ≤ 0 ∧ 0 < (rn1 : Int)) ∧ ∃ b7 o2 : Nat, (ra1 = some ⟨b7, o2, none⟩) ∧
  ∃ c0_4 : Bool, ∃ c1_4 : Int, ∃ c2_3 : Int, ∃ c3a3 : Option Addr, ∃ c3n3 : Nat, ∃ c3c3 : Nat, cellsAre H_20 b7 (o2 + 0 * 4) [(.bool c0_4), (.int .i64 c1_4), (.int .i64 c2_3), (.slice c3a3 c3n3 c3c3)] ∧
  CallF Try.prog 10 #[(.agg #[(.bool c0_2), (.int .i64 c1_2), (.int .i64 c2_1), (.slice c3a1 c3n1 c3c1)]), (.agg #[(.bool c0_4), (.int .i64 c1_4), (.int .i64 c2_3), (.slice c3a3 c3n3 c3c3)])] H_20 fun u8 H_21 => ∃ r7 : Bool, u8 = (.bool r7) ∧
  Jn2 ((!((decide (r6 = 0)) == there)) || (!r7)) H_21) ∧
  (¬ (((!((decide (r6 = 0)) == there)) = false) ∧ there = true) →
  ((((!((decide (r6 = 0)) == there)) = false) ∧ there = true) → cellsAre H_16 b4 0 [(.bool c0_2), (.int .i64 c1_2), (.int .i64 c2_1), (.slice c3a1 c3n1 c3c1)]) ∧
  ((((!((decide (r6 = 0)) == there)) = false) ∧ there = true) → cellsAre H_16 b4 0 [(.bool c0_2), (.int .i64 c1_2), (.int .i64 c2_1), (.slice c3a1 c3n1 c3c1)]) ∧
  Jn2 ((!((decide (r6 = 0)) == there)) || false) H_16)) ∧
  (((decide (v = 1))) = false →
  ∀ Jn3 : Heap → Prop, (∀ H_22 : Heap, WireOnce.r5 Jn1 H_22 → Jn3 H_22) →
  (((decide (v = 2))) = true →
  ∃ v4 : Int, cellAt H_5 b2 1 = some (.int .i64 v4) ∧
  CallF Try.prog 12 #[(.pointer r2), (.int .i64 v4)] H_5 fun u9 H_23 => ∃ r8 : Int, ∃ r9 : Int, u9 = (.tuple #[(.int .i64 r8), (.int .i64 r9)]) ∧
  ∃ v5 : Int, cellAt H_23 b2 1 = some (.int .i64 v5) ∧
  ∃ m0_1 : Bool, ∃ m1_1 : Int, ∃ m2_1 : Int, ∃ m3a1 : Option Addr, ∃ m3n1 : Nat, ∃ m3c1 : Nat, ∃ there1 : Bool, ReadRun Try.prog (Instr.lookup 29 (.map (some b)) (.int .i64 v5) true) H_23 (.tuple #[(.agg #[(.bool m0_1), (.int .i64 m1_1), (.int .i64 m2_1), (.slice m3a1 m3n1 m3c1)]), (.bool there1)]) ∧
  ∀ (b8 : Nat) (H_24 : Heap), b8 = H_23.size → H_24 = H_23.push (.cells #[(.bool false), (.int .i64 0), (.int .i64 0), (.slice none 0 0)] 37) →
  canSet H_24 b8 0 [(.bool m0_1), (.int .i64 m1_1), (.int .i64 m2_1), (.slice m3a1 m3n1 m3c1)] ∧
  ∀ H_25 : Heap, H_25 = setAll H_24 b8 0 [(.bool m0_1), (.int .i64 m1_1), (.int .i64 m2_1), (.slice m3a1 m3n1 m3c1)] →
  (((((decide (r9 = 0)) && (!there1)) || ((decide (r9 = 19)) && there1))) = true →
  K (.bool false) H_25) ∧
  (((((decide (r9 = 0)) && (!there1)) || ((decide (r9 = 19)) && there1))) = false →
  ∀ Jn4 : Heap → Prop, (∀ H_26 : Heap, WireOnce.r6 Jn3 H_26 → Jn4 H_26) →
  (((decide (r9 = 0))) = true →
  ∃ c0_5 : Bool, ∃ c1_5 : Int, ∃ c2_4 : Int, ∃ c3a4 : Option Addr, ∃ c3n4 : Nat, ∃ c3c4 : Nat, cellsAre H_25 b8 0 [(.bool c0_5), (.int .i64 c1_5), (.int .i64 c2_4), (.slice c3a4 c3n4 c3c4)] ∧
  RunW Try.prog (Instr.mapUpdate 29 (.map (some b)) (.int .i64 r8) (.agg #[(.bool c0_5), (.int .i64 c1_5), (.int .i64 c2_4), (.slice c3a4 c3n4 c3c4)])) H_25 fun u10 H_27 =>
  Jn4 H_27) ∧
  (((decide (r9 = 0))) = false →
  Jn4 H_25))) ∧
  (((decide (v = 2))) = false →
  Jn3 H_5)))) ∧
  (((decide (i < (callsn : Int)))) = false →
  K (.bool true) H_3)

def WireOnce.code (most : Int) (callsa : Option Addr) (callsn : Nat) (callsc : Nat) (H : Heap) (K : Value → Heap → Prop) : Prop :=
  CallF Try.prog 5 #[] H fun u H_ => ∃ r : Bool, u = (.bool r) ∧
  (((!r)) = true →
  K (.bool false) H_) ∧
  (((!r)) = false →
  ∃ r1 : Bool, CallQ Try.prog 6 #[(.slice callsa callsn callsc)] H_ (.bool r1) ∧
  ((r1) = true →
  K (.bool true) H_) ∧
  ((r1) = false →
  CallF Try.prog 7 #[(.int .i64 most)] H_ fun u1 H_1 => ∃ r2 : Option Addr, ∃ r3 : Int, u1 = (.tuple #[(.pointer r2), (.int .i64 r3)]) ∧
  ((((!decide (r3 = 0)) || r2.isNone)) = true →
  K (.bool r2.isNone) H_1) ∧
  ((((!decide (r3 = 0)) || r2.isNone)) = false →
  ∀ (b : Nat) (H_2 : Heap), b = H_1.size → H_2 = H_1.push (.map #[] 0) →
  ∃ (Inv : Int → Heap → Prop) (mu : Int → Heap → Nat), Inv 0 H_2 ∧
  ∀ (i : Int), ∀ H_3 : Heap, Inv i H_3 → WireOnce.l7 most callsa callsn K r1 r2 r3 b Inv mu i H_3)))

def WireOnce.ann : Ann := (.seq .reg (.seq (.seq .reg (.cond (.seq .reg .no) .no)) (.seq (.seq .reg (.cond (.seq .reg .no) .no)) (.seq .reg (.seq (.seq .reg (.cond (.seq .reg .no) .no)) (.seq .reg (.seq (.seq .reg (.blk (.loop [(8, .one (.int .i64))] (.seq (.seq .reg (.cond .no .no)) (.seq (.blk (.seq .reg (.seq (.seq .reg (.blk (.seq .reg (.condJ [] (.seq .reg (.seq .reg (.blk (.loop [(12, .one (.int .i64))] (.seq (.seq .reg (.cond .no .no)) (.seq (.blk .reg) .reg)))))) (.seq .reg (.condJ [] (.seq .reg (.seq .reg (.seq (.seq (.regJ [(112, .one (.bool))]) (.cond (.seq .reg .no) .no)) .reg))) (.seq .reg (.condJ [] (.seq .reg (.seq .reg (.seq (.seq .reg (.cond (.seq .reg .no) .no)) (.seq .reg (.condJ [] .reg .no))))) .no)))))))) (.seq .reg (.cond (.seq .reg .no) .no))))) .reg))))) (.seq .reg .no))))))))

theorem WireOnce.eq (most : Int) (callsa : Option Addr) (callsn : Nat) (callsc : Nat) (H : Heap) (K : Value → Heap → Prop) : vcFun X Try.f3 WireOnce.ann [(.int .i64 most), (.slice callsa callsn callsc)] H K = WireOnce.code most callsa callsn callsc H K := by kernel_rfl

theorem WireOnce.call {most : Int} {callsa : Option Addr} {callsn : Nat} {callsc : Nat} {H : Heap} {K : Value → Heap → Prop} (h : WireOnce.code most callsa callsn callsc H K) : CallF Try.prog 3 #[(.int .i64 most), (.slice callsa callsn callsc)] H K :=
  callF_of_eq (X := X) X_P X_wide X_bodied Try.func3 (WireOnce.eq most callsa callsn callsc H K) h

end Go.Proofs.Ytfkapbggncejcaa
