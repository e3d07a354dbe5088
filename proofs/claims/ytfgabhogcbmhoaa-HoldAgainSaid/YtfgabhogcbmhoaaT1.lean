import Derived.Test.YtfgabhogcbmhoaaE9
import Derived.Test.YtfgabhogcbmhoaaProg
import Derived.KernelRfl
set_option maxRecDepth 100000
set_option linter.unusedVariables false
namespace Go.Proofs.Ytfgabhogcbmhoaa
open Go Go.Nm Go.Proofs
noncomputable def X : Ctx := { P := Try.prog, quiet := [8, 14, 17, 21], calls := [2, 3, 4, 5, 6, 7, 8, 9, 10, 11, 12, 13, 14, 15, 16, 17, 18, 19, 20, 21, 22, 23, 24, 25, 26, 27, 28, 30, 31, 32, 33, 34, 35, 36, 37, 38, 39, 40, 41, 42, 43, 44, 45, 46, 47, 48, 49, 50] }
theorem X_P : X.P = Try.prog := rfl
theorem X_wide : X.P.follows .mixedOrders = true := by kernel_rfl
theorem X_all : X.calls.all (bodiedB X.P) = true := by kernel_rfl
theorem X_bodied : ∀ f, memN f X.calls = true → Bodied X.P f := bodied_all X_all

def New.code (next_ : Int) (most : Int) (H : Heap) (K : Value → Heap → Prop) : Prop :=
  ((((((decide (next_ < 0)) || (decide (1099511627776 < next_))) || (decide (most < 1))) || (decide (256 < most)))) = true →
  K (.tuple #[(.pointer none), (.int .i64 11)]) H) ∧
  ((((((decide (next_ < 0)) || (decide (1099511627776 < next_))) || (decide (most < 1))) || (decide (256 < most)))) = false →
  K (.tuple #[(.pointer (some ⟨((H.push (.map #[] 0))).size, 0, none⟩)), (.int .i64 0)]) ((H.push (.map #[] 0)).push (.cells #[(.int .i64 next_), (.int .i64 most), (.map (some H.size))] 51)))

def New.ann : Ann := (.seq .reg (.seq (.seq .reg (.cond (.seq .reg .no) .no)) (.seq .reg .no)))

theorem New.eq (next_ : Int) (most : Int) (H : Heap) (K : Value → Heap → Prop) : vcFun X Try.f9 New.ann [(.int .i64 next_), (.int .i64 most)] H K = New.code next_ most H K := by kernel_rfl

theorem New.call {next_ : Int} {most : Int} {H : Heap} {K : Value → Heap → Prop} (h : New.code next_ most H K) : CallF Try.prog 9 #[(.int .i64 next_), (.int .i64 most)] H K :=
  callF_of_eq X_P X_wide X_bodied Try.func9 (New.eq next_ most H K) h

def Offer.r1 (Inv : Int → Int → Heap → Prop) (mu : Int → Int → Heap → Nat) (refused : Int) (t25 : Int) (H_ : Heap) (refused1 : Int) (H_1 : Heap) : Prop :=
  Inv refused1 (IntKind.i64.wrap (t25 + 1)) H_1 ∧ mu refused1 (IntKind.i64.wrap (t25 + 1)) H_1 < mu refused t25 H_

def Offer.r2 (Jn : Int → Heap → Prop) (refused2 : Int) (H_2 : Heap) : Prop :=
  Jn refused2 H_2

def Offer.l3 (hb : Nat) (ho : Nat) (K : Value → Heap → Prop) (Inv1 : (Option Addr) → Nat → Nat → Int → Heap → Prop) (mu1 : (Option Addr) → Nat → Nat → Int → Heap → Nat) (readya : Option Addr) (readyn : Nat) (readyc : Nat) (refused3 : Int) (H_4 : Heap) : Prop :=
  ∃ v6 : Option Nat, cellAt H_4 hb (ho + 2) = some (.map v6) ∧
  ∃ v7 : Int, cellAt H_4 hb ho = some (.int .i64 v7) ∧
  ∃ m1 : Int, ∃ there1 : Bool, ReadRun Try.prog (Instr.lookup 49 (.map v6) (.int .i64 v7) true) H_4 (.tuple #[(.int .i64 m1), (.bool there1)]) ∧
  (((!there1)) = true →
  K (.tuple #[(.slice readya readyn readyc), (.int .i64 refused3)]) H_4) ∧
  (((!there1)) = false →
  ∃ v8 : Option Nat, cellAt H_4 hb (ho + 2) = some (.map v8) ∧
  ∃ v9 : Int, cellAt H_4 hb ho = some (.int .i64 v9) ∧
  RunW Try.prog (Builtin.delete_ #[49, 2] 0 #[(.map v8), (.int .i64 v9)]) H_4 fun u1 H_5 =>
  RunW Try.prog (Builtin.append_ #[32, 32] 32 #[(.slice readya readyn readyc), (.slice (some ⟨H_5.size, 0, none⟩) 1 1)]) (H_5.push (.cells #[(.int .i64 m1)] 2)) fun u2 H_6 =>
  ∃ sa : Option Addr, ∃ sn : Nat, ∃ sc : Nat, u2 = (.slice sa sn sc) ∧
  ∃ v10 : Int, cellAt H_6 hb ho = some (.int .i64 v10) ∧
  canSet H_6 hb ho [(.int .i64 (IntKind.i64.wrap (v10 + 1)))] ∧
  Inv1 sa sn sc refused3 (setAll H_6 hb ho [(.int .i64 (IntKind.i64.wrap (v10 + 1)))]) ∧ mu1 sa sn sc refused3 (setAll H_6 hb ho [(.int .i64 (IntKind.i64.wrap (v10 + 1)))]) < mu1 readya readyn readyc refused3 H_4)

def Offer.l4 (hb : Nat) (ho : Nat) (first : Int) (itemsa : Option Addr) (itemsn : Nat) (K : Value → Heap → Prop) (Inv : Int → Int → Heap → Prop) (mu : Int → Int → Heap → Nat) (refused : Int) (t25 : Int) (H_ : Heap) : Prop :=
  (((decide (t25 < (itemsn : Int)))) = true →
  ((0 : Int) ≤ t25 ∧ t25 < (itemsn : Int)) ∧ ∃ b o : Nat, (itemsa = some ⟨b, o, none⟩) ∧
  ∃ v : Int, cellAt H_ b (o + t25.toNat) = some (.int .i64 v) ∧
  ∃ v1 : Option Nat, cellAt H_ hb (ho + 2) = some (.map v1) ∧
  ∃ m : Int, ∃ there : Bool, ReadRun Try.prog (Instr.lookup 49 (.map v1) (.int .i64 (IntKind.i64.wrap (first + t25))) true) H_ (.tuple #[(.int .i64 m), (.bool there)]) ∧
  ∃ v2 : Int, cellAt H_ hb ho = some (.int .i64 v2) ∧
  ∀ Jn : Int → Heap → Prop, (∀ (refused1 : Int), ∀ H_1 : Heap, Offer.r1 Inv mu refused t25 H_ refused1 H_1 → Jn refused1 H_1) →
  ((((decide ((IntKind.i64.wrap (first + t25)) < v2)) || there)) = true →
  Jn refused H_) ∧
  ((((decide ((IntKind.i64.wrap (first + t25)) < v2)) || there)) = false →
  ∃ v3 : Int, cellAt H_ hb ho = some (.int .i64 v3) ∧
  ∃ v4 : Int, cellAt H_ hb (ho + 1) = some (.int .i64 v4) ∧
  ∀ Jn1 : Int → Heap → Prop, (∀ (refused2 : Int), ∀ H_2 : Heap, Offer.r2 Jn refused2 H_2 → Jn1 refused2 H_2) →
  (((decide ((IntKind.i64.wrap (v3 + v4)) ≤ (IntKind.i64.wrap (first + t25))))) = true →
  Jn1 (IntKind.i64.wrap (refused + 1)) H_) ∧
  (((decide ((IntKind.i64.wrap (v3 + v4)) ≤ (IntKind.i64.wrap (first + t25))))) = false →
  ∃ v5 : Option Nat, cellAt H_ hb (ho + 2) = some (.map v5) ∧
  RunW Try.prog (Instr.mapUpdate 49 (.map v5) (.int .i64 (IntKind.i64.wrap (first + t25))) (.int .i64 v)) H_ fun u H_3 =>
  Jn1 refused H_3))) ∧
  (((decide (t25 < (itemsn : Int)))) = false →
  ∃ (Inv1 : (Option Addr) → Nat → Nat → Int → Heap → Prop) (mu1 : (Option Addr) → Nat → Nat → Int → Heap → Nat), Inv1 none 0 0 refused H_ ∧
  ∀ (readya : Option Addr) (readyn : Nat) (readyc : Nat) (refused3 : Int), ∀ H_4 : Heap, Inv1 readya readyn readyc refused3 H_4 → Offer.l3 hb ho K Inv1 mu1 readya readyn readyc refused3 H_4)

def Offer.code (hb : Nat) (ho : Nat) (first : Int) (itemsa : Option Addr) (itemsn : Nat) (itemsc : Nat) (H : Heap) (K : Value → Heap → Prop) : Prop :=
  ((((decide (first < 0)) || (decide (2199023255552 < first)))) = true →
  K (.tuple #[(.slice none 0 0), (.int .i64 (itemsn : Int))]) H) ∧
  ((((decide (first < 0)) || (decide (2199023255552 < first)))) = false →
  ∃ (Inv : Int → Int → Heap → Prop) (mu : Int → Int → Heap → Nat), Inv 0 0 H ∧
  ∀ (refused : Int) (t25 : Int), ∀ H_ : Heap, Inv refused t25 H_ → Offer.l4 hb ho first itemsa itemsn K Inv mu refused t25 H_)

def Offer.ann : Ann := (.seq .reg (.seq (.seq .reg (.cond (.seq .reg .no) .no)) (.seq (.seq .reg (.blk (.loop [(7, .one (.int .i64)), (25, .one (.int .i64))] (.seq .reg (.seq (.cond .no .no) (.seq (.blk (.seq .reg (.seq .reg (.seq .reg (.blk (.seq .reg (.condJ [(7, .one (.int .i64))] .no (.seq .reg (.condJ [(7, .one (.int .i64))] .reg .reg))))))))) .reg)))))) (.blk (.loop [(6, .one (.slice)), (7, .one (.int .i64))] (.blk (.seq .reg (.seq (.seq .reg (.cond (.seq .reg .no) .no)) (.seq .reg (.seq .reg .reg))))))))))

theorem Offer.eq (hb : Nat) (ho : Nat) (first : Int) (itemsa : Option Addr) (itemsn : Nat) (itemsc : Nat) (H : Heap) (K : Value → Heap → Prop) : vcFun X Try.f12 Offer.ann [(.pointer (some ⟨hb, ho, none⟩)), (.int .i64 first), (.slice itemsa itemsn itemsc)] H K = Offer.code hb ho first itemsa itemsn itemsc H K := by kernel_rfl

theorem Offer.call {hb : Nat} {ho : Nat} {first : Int} {itemsa : Option Addr} {itemsn : Nat} {itemsc : Nat} {H : Heap} {K : Value → Heap → Prop} (h : Offer.code hb ho first itemsa itemsn itemsc H K) : CallF Try.prog 12 #[(.pointer (some ⟨hb, ho, none⟩)), (.int .i64 first), (.slice itemsa itemsn itemsc)] H K :=
  callF_of_eq X_P X_wide X_bodied Try.func12 (Offer.eq hb ho first itemsa itemsn itemsc H K) h

def SameLongs.l1 (aa : Option Addr) (an : Nat) (ba : Option Addr) (bn : Nat) (K : Value → Heap → Prop) (Inv : Int → Heap → Prop) (mu : Int → Heap → Nat) (i : Int) (H_ : Heap) : Prop :=
  (((decide (i < (an : Int)))) = true →
  ((0 : Int) ≤ i ∧ i < (an : Int)) ∧ ∃ b o : Nat, (aa = some ⟨b, o, none⟩) ∧
  ∃ v : Int, cellAt H_ b (o + i.toNat) = some (.int .i64 v) ∧
  ((0 : Int) ≤ i ∧ i < (bn : Int)) ∧ ∃ b1 o1 : Nat, (ba = some ⟨b1, o1, none⟩) ∧
  ∃ v1 : Int, cellAt H_ b1 (o1 + i.toNat) = some (.int .i64 v1) ∧
  (((!decide (v = v1))) = true →
  K (.bool false) H_) ∧
  (((!decide (v = v1))) = false →
  Inv (IntKind.i64.wrap (i + 1)) H_ ∧ mu (IntKind.i64.wrap (i + 1)) H_ < mu i H_)) ∧
  (((decide (i < (an : Int)))) = false →
  K (.bool true) H_)

def SameLongs.code (aa : Option Addr) (an : Nat) (ac : Nat) (ba : Option Addr) (bn : Nat) (bc : Nat) (H : Heap) (K : Value → Heap → Prop) : Prop :=
  (((!decide ((an : Int) = (bn : Int)))) = true →
  K (.bool false) H) ∧
  (((!decide ((an : Int) = (bn : Int)))) = false →
  ∃ (Inv : Int → Heap → Prop) (mu : Int → Heap → Nat), Inv 0 H ∧
  ∀ (i : Int), ∀ H_ : Heap, Inv i H_ → SameLongs.l1 aa an ba bn K Inv mu i H_)

def SameLongs.ann : Ann := (.seq .reg (.seq (.seq .reg (.cond (.seq .reg .no) .no)) (.seq (.seq .reg (.blk (.loop [(5, .one (.int .i64))] (.seq (.seq .reg (.cond .no .no)) (.seq (.blk (.seq .reg (.cond (.seq .reg .no) .no))) .reg))))) (.seq .reg .no))))

theorem SameLongs.eq (aa : Option Addr) (an : Nat) (ac : Nat) (ba : Option Addr) (bn : Nat) (bc : Nat) (H : Heap) (K : Value → Heap → Prop) : vcFun X Try.f14 SameLongs.ann [(.slice aa an ac), (.slice ba bn bc)] H K = SameLongs.code aa an ac ba bn bc H K := by kernel_rfl

theorem SameLongs.call {aa : Option Addr} {an : Nat} {ac : Nat} {ba : Option Addr} {bn : Nat} {bc : Nat} {H : Heap} {K : Value → Heap → Prop} (h : SameLongs.code aa an ac ba bn bc H K) : CallF Try.prog 14 #[(.slice aa an ac), (.slice ba bn bc)] H K :=
  callF_of_eq X_P X_wide X_bodied Try.func14 (SameLongs.eq aa an ac ba bn bc H K) h

def CopyLongs.code (la : Option Addr) (ln : Nat) (lc : Nat) (H : Heap) (K : Value → Heap → Prop) : Prop :=
  RunW Try.prog (Builtin.append_ #[32, 32] 32 #[(.slice (some ⟨H.size, 0, none⟩) 0 0), (.slice la ln lc)]) (H.push (.cells #[] 2)) fun u H_ =>
  ∃ sa : Option Addr, ∃ sn : Nat, ∃ sc : Nat, u = (.slice sa sn sc) ∧
  K (.slice sa sn sc) H_

def CopyLongs.ann : Ann := (.seq .reg (.seq .reg .no))

theorem CopyLongs.eq (la : Option Addr) (ln : Nat) (lc : Nat) (H : Heap) (K : Value → Heap → Prop) : vcFun X Try.f11 CopyLongs.ann [(.slice la ln lc)] H K = CopyLongs.code la ln lc H K := by kernel_rfl

theorem CopyLongs.call {la : Option Addr} {ln : Nat} {lc : Nat} {H : Heap} {K : Value → Heap → Prop} (h : CopyLongs.code la ln lc H K) : CallF Try.prog 11 #[(.slice la ln lc)] H K :=
  callF_of_eq X_P X_wide X_bodied Try.func11 (CopyLongs.eq la ln lc H K) h

def Next.code (hb : Nat) (ho : Nat) (H : Heap) (K : Value → Heap → Prop) : Prop :=
  ∃ v : Int, cellAt H hb ho = some (.int .i64 v) ∧
  K (.int .i64 v) H

def Next.ann : Ann := (.seq .reg (.seq .reg .no))

theorem Next.eq (hb : Nat) (ho : Nat) (H : Heap) (K : Value → Heap → Prop) : vcFun X Try.f17 Next.ann [(.pointer (some ⟨hb, ho, none⟩))] H K = Next.code hb ho H K := by kernel_rfl

theorem Next.call {hb : Nat} {ho : Nat} {H : Heap} {K : Value → Heap → Prop} (h : Next.code hb ho H K) : CallF Try.prog 17 #[(.pointer (some ⟨hb, ho, none⟩))] H K :=
  callF_of_eq X_P X_wide X_bodied Try.func17 (Next.eq hb ho H K) h

def Waiting.code (hb : Nat) (ho : Nat) (H : Heap) (K : Value → Heap → Prop) : Prop :=
  ∃ v : Option Nat, cellAt H hb (ho + 2) = some (.map v) ∧
  CallF Try.prog 24 #[(.map v)] H fun u H_ => ∃ r : Value, u = r ∧
  CallF Try.prog 23 #[r] H_ fun u1 H_1 => ∃ ra : Option Addr, ∃ rn : Nat, ∃ rc : Nat, u1 = (.slice ra rn rc) ∧
  K (.slice ra rn rc) H_1

def Waiting.ann : Ann := (.seq .reg (.seq .reg .no))

theorem Waiting.eq (hb : Nat) (ho : Nat) (H : Heap) (K : Value → Heap → Prop) : vcFun X Try.f18 Waiting.ann [(.pointer (some ⟨hb, ho, none⟩))] H K = Waiting.code hb ho H K := by kernel_rfl

theorem Waiting.call {hb : Nat} {ho : Nat} {H : Heap} {K : Value → Heap → Prop} (h : Waiting.code hb ho H K) : CallF Try.prog 18 #[(.pointer (some ⟨hb, ho, none⟩))] H K :=
  callF_of_eq X_P X_wide X_bodied Try.func18 (Waiting.eq hb ho H K) h

def Drain.l1 (hb : Nat) (ho : Nat) (K : Value → Heap → Prop) (ra : Option Addr) (rn : Nat) (Inv : (Option Addr) → Nat → Nat → Int → Heap → Prop) (mu : (Option Addr) → Nat → Nat → Int → Heap → Nat) (lista : Option Addr) (listn : Nat) (listc : Nat) (t9 : Int) (H_1 : Heap) : Prop :=
  (((decide (t9 < (rn : Int)))) = true →
  ((0 : Int) ≤ t9 ∧ t9 < (rn : Int)) ∧ ∃ b o : Nat, (ra = some ⟨b, o, none⟩) ∧
  ∃ v : Int, cellAt H_1 b (o + t9.toNat) = some (.int .i64 v) ∧
  ∃ v1 : Option Nat, cellAt H_1 hb (ho + 2) = some (.map v1) ∧
  ∃ m : Int, ReadRun Try.prog (Instr.lookup 49 (.map v1) (.int .i64 v) false) H_1 (.int .i64 m) ∧
  RunW Try.prog (Builtin.append_ #[32, 32] 32 #[(.slice lista listn listc), (.slice (some ⟨H_1.size, 0, none⟩) 1 1)]) (H_1.push (.cells #[(.int .i64 m)] 2)) fun u1 H_2 =>
  ∃ sa : Option Addr, ∃ sn : Nat, ∃ sc : Nat, u1 = (.slice sa sn sc) ∧
  Inv sa sn sc (IntKind.i64.wrap (t9 + 1)) H_2 ∧ mu sa sn sc (IntKind.i64.wrap (t9 + 1)) H_2 < mu lista listn listc t9 H_1) ∧
  (((decide (t9 < (rn : Int)))) = false →
  ∃ v2 : Option Nat, cellAt H_1 hb (ho + 2) = some (.map v2) ∧
  RunW Try.prog (Builtin.clear_ #[49] 0 #[(.map v2)]) H_1 fun u2 H_3 =>
  K (.slice lista listn listc) H_3)

def Drain.code (hb : Nat) (ho : Nat) (H : Heap) (K : Value → Heap → Prop) : Prop :=
  CallF Try.prog 18 #[(.pointer (some ⟨hb, ho, none⟩))] H fun u H_ => ∃ ra : Option Addr, ∃ rn : Nat, ∃ rc : Nat, u = (.slice ra rn rc) ∧
  ∃ (Inv : (Option Addr) → Nat → Nat → Int → Heap → Prop) (mu : (Option Addr) → Nat → Nat → Int → Heap → Nat), Inv none 0 0 0 H_ ∧
  ∀ (lista : Option Addr) (listn : Nat) (listc : Nat) (t9 : Int), ∀ H_1 : Heap, Inv lista listn listc t9 H_1 → Drain.l1 hb ho K ra rn Inv mu lista listn listc t9 H_1

def Drain.ann : Ann := (.seq .reg (.seq .reg (.seq (.seq .reg (.blk (.loop [(3, .one (.slice)), (9, .one (.int .i64))] (.seq .reg (.seq (.cond .no .no) (.seq (.blk (.seq .reg .reg)) .reg)))))) (.seq .reg (.seq .reg .no)))))

theorem Drain.eq (hb : Nat) (ho : Nat) (H : Heap) (K : Value → Heap → Prop) : vcFun X Try.f15 Drain.ann [(.pointer (some ⟨hb, ho, none⟩))] H K = Drain.code hb ho H K := by kernel_rfl

theorem Drain.call {hb : Nat} {ho : Nat} {H : Heap} {K : Value → Heap → Prop} (h : Drain.code hb ho H K) : CallF Try.prog 15 #[(.pointer (some ⟨hb, ho, none⟩))] H K :=
  callF_of_eq X_P X_wide X_bodied Try.func15 (Drain.eq hb ho H K) h

def Clone.code (hb : Nat) (ho : Nat) (H : Heap) (K : Value → Heap → Prop) : Prop :=
  ∃ v : Int, cellAt H hb ho = some (.int .i64 v) ∧
  ∃ v1 : Int, cellAt H hb (ho + 1) = some (.int .i64 v1) ∧
  ∃ v2 : Option Nat, cellAt H hb (ho + 2) = some (.map v2) ∧
  CallF Try.prog 25 #[(.map v2)] H fun u H_ => ∃ r : Option Nat, u = (.map r) ∧
  cellAt H_ hb (ho + 1) = some (.int .i64 v1) ∧
  cellAt H_ hb ho = some (.int .i64 v) ∧
  K (.pointer (some ⟨H_.size, 0, none⟩)) (H_.push (.cells #[(.int .i64 v), (.int .i64 v1), (.map r)] 51))

def Clone.ann : Ann := (.seq .reg (.seq .reg .no))

theorem Clone.eq (hb : Nat) (ho : Nat) (H : Heap) (K : Value → Heap → Prop) : vcFun X Try.f20 Clone.ann [(.pointer (some ⟨hb, ho, none⟩))] H K = Clone.code hb ho H K := by kernel_rfl

theorem Clone.call {hb : Nat} {ho : Nat} {H : Heap} {K : Value → Heap → Prop} (h : Clone.code hb ho H K) : CallF Try.prog 20 #[(.pointer (some ⟨hb, ho, none⟩))] H K :=
  callF_of_eq X_P X_wide X_bodied Try.func20 (Clone.eq hb ho H K) h

def RNew.code (next_ : Int) (most : Int) (H : Heap) (K : Value → Heap → Prop) : Prop :=
  ((((((decide (next_ < 0)) || (decide (1099511627776 < next_))) || (decide (most < 1))) || (decide (256 < most)))) = true →
  K (.tuple #[(.pointer none), (.int .i64 11)]) H) ∧
  ((((((decide (next_ < 0)) || (decide (1099511627776 < next_))) || (decide (most < 1))) || (decide (256 < most)))) = false →
  K (.tuple #[(.pointer (some ⟨H.size, 0, none⟩)), (.int .i64 0)]) (H.push (.cells #[(.int .i64 next_), (.int .i64 most), (.slice none 0 0)] 44)))

def RNew.ann : Ann := (.seq .reg (.seq (.seq .reg (.cond (.seq .reg .no) .no)) (.seq .reg .no)))

theorem RNew.eq (next_ : Int) (most : Int) (H : Heap) (K : Value → Heap → Prop) : vcFun X Try.f10 RNew.ann [(.int .i64 next_), (.int .i64 most)] H K = RNew.code next_ most H K := by kernel_rfl

theorem RNew.call {next_ : Int} {most : Int} {H : Heap} {K : Value → Heap → Prop} (h : RNew.code next_ most H K) : CallF Try.prog 10 #[(.int .i64 next_), (.int .i64 most)] H K :=
  callF_of_eq X_P X_wide X_bodied Try.func10 (RNew.eq next_ most H K) h

def Rhas.l1 (hb : Nat) (ho : Nat) (n : Int) (K : Value → Heap → Prop) (Inv : Int → Heap → Prop) (mu : Int → Heap → Nat) (i : Int) (H_ : Heap) : Prop :=
  ∃ va : Option Addr, ∃ vn : Nat, ∃ vc : Nat, cellAt H_ hb (ho + 2) = some (.slice va vn vc) ∧
  (((decide (i < (vn : Int)))) = true →
  ∃ va1 : Option Addr, ∃ vn1 : Nat, ∃ vc1 : Nat, cellAt H_ hb (ho + 2) = some (.slice va1 vn1 vc1) ∧
  ((0 : Int) ≤ i ∧ i < (vn1 : Int)) ∧ ∃ b o : Nat, (va1 = some ⟨b, o, none⟩) ∧
  ∃ v : Int, cellAt H_ b (o + i.toNat * 2) = some (.int .i64 v) ∧
  (((decide (v = n))) = true →
  K (.bool true) H_) ∧
  (((decide (v = n))) = false →
  Inv (IntKind.i64.wrap (i + 1)) H_ ∧ mu (IntKind.i64.wrap (i + 1)) H_ < mu i H_)) ∧
  (((decide (i < (vn : Int)))) = false →
  K (.bool false) H_)

def Rhas.code (hb : Nat) (ho : Nat) (n : Int) (H : Heap) (K : Value → Heap → Prop) : Prop :=
  ∃ (Inv : Int → Heap → Prop) (mu : Int → Heap → Nat), Inv 0 H ∧
  ∀ (i : Int), ∀ H_ : Heap, Inv i H_ → Rhas.l1 hb ho n K Inv mu i H_

def Rhas.ann : Ann := (.seq .reg (.seq (.seq .reg (.blk (.loop [(5, .one (.int .i64))] (.seq (.seq .reg (.cond .no .no)) (.seq (.blk (.seq .reg (.cond (.seq .reg .no) .no))) .reg))))) (.seq .reg .no)))

theorem Rhas.eq (hb : Nat) (ho : Nat) (n : Int) (H : Heap) (K : Value → Heap → Prop) : vcFun X Try.f21 Rhas.ann [(.pointer (some ⟨hb, ho, none⟩)), (.int .i64 n)] H K = Rhas.code hb ho n H K := by kernel_rfl

theorem Rhas.call {hb : Nat} {ho : Nat} {n : Int} {H : Heap} {K : Value → Heap → Prop} (h : Rhas.code hb ho n H K) : CallF Try.prog 21 #[(.pointer (some ⟨hb, ho, none⟩)), (.int .i64 n)] H K :=
  callF_of_eq X_P X_wide X_bodied Try.func21 (Rhas.eq hb ho n H K) h

def Rput.l1 (hb : Nat) (ho : Nat) (K : Value → Heap → Prop) (Inv : Int → Heap → Prop) (mu : Int → Heap → Nat) (k : Int) (H_1 : Heap) : Prop :=
  (((decide (0 < k)) = true) → True) ∧
  ∃ va1 : Option Addr, ∃ vn1 : Nat, ∃ vc1 : Nat, (((decide (0 < k)) = true) → cellAt H_1 hb (ho + 2) = some (.slice va1 vn1 vc1)) ∧
  (((decide (0 < k)) = true) → ((0 : Int) ≤ (IntKind.i64.wrap (k - 1)) ∧ (IntKind.i64.wrap (k - 1)) < (vn1 : Int))) ∧ ∃ b o : Nat, (((decide (0 < k)) = true) → (va1 = some ⟨b, o, none⟩)) ∧
  ∃ v : Int, (((decide (0 < k)) = true) → cellAt H_1 b (o + (IntKind.i64.wrap (k - 1)).toNat * 2) = some (.int .i64 v)) ∧
  (((decide (0 < k)) = true) → True) ∧
  ∃ va2 : Option Addr, ∃ vn2 : Nat, ∃ vc2 : Nat, (((decide (0 < k)) = true) → cellAt H_1 hb (ho + 2) = some (.slice va2 vn2 vc2)) ∧
  (((decide (0 < k)) = true) → ((0 : Int) ≤ k ∧ k < (vn2 : Int))) ∧ ∃ b1 o1 : Nat, (((decide (0 < k)) = true) → (va2 = some ⟨b1, o1, none⟩)) ∧
  ∃ v1 : Int, (((decide (0 < k)) = true) → cellAt H_1 b1 (o1 + k.toNat * 2) = some (.int .i64 v1)) ∧
  ((((decide (0 < k)) && (decide (v1 < v)))) = true →
  ∃ va3 : Option Addr, ∃ vn3 : Nat, ∃ vc3 : Nat, cellAt H_1 hb (ho + 2) = some (.slice va3 vn3 vc3) ∧
  ∃ va4 : Option Addr, ∃ vn4 : Nat, ∃ vc4 : Nat, cellAt H_1 hb (ho + 2) = some (.slice va4 vn4 vc4) ∧
  ∃ va5 : Option Addr, ∃ vn5 : Nat, ∃ vc5 : Nat, cellAt H_1 hb (ho + 2) = some (.slice va5 vn5 vc5) ∧
  ((0 : Int) ≤ k ∧ k < (vn5 : Int)) ∧ ∃ b2 o2 : Nat, (va5 = some ⟨b2, o2, none⟩) ∧
  ∃ c0 : Int, ∃ c1 : Int, cellsAre H_1 b2 (o2 + k.toNat * 2) [(.int .i64 c0), (.int .i64 c1)] ∧
  ∃ va6 : Option Addr, ∃ vn6 : Nat, ∃ vc6 : Nat, cellAt H_1 hb (ho + 2) = some (.slice va6 vn6 vc6) ∧
  ((0 : Int) ≤ (IntKind.i64.wrap (k - 1)) ∧ (IntKind.i64.wrap (k - 1)) < (vn6 : Int)) ∧ ∃ b3 o3 : Nat, (va6 = some ⟨b3, o3, none⟩) ∧
  ∃ c0_1 : Int, ∃ c1_1 : Int, cellsAre H_1 b3 (o3 + (IntKind.i64.wrap (k - 1)).toNat * 2) [(.int .i64 c0_1), (.int .i64 c1_1)] ∧
  ((0 : Int) ≤ (IntKind.i64.wrap (k - 1)) ∧ (IntKind.i64.wrap (k - 1)) < (vn3 : Int)) ∧ ∃ b4 o4 : Nat, (va3 = some ⟨b4, o4, none⟩) ∧
  canSet H_1 b4 (o4 + (IntKind.i64.wrap (k - 1)).toNat * 2) [(.int .i64 c0), (.int .i64 c1)] ∧
  ((0 : Int) ≤ k ∧ k < (vn4 : Int)) ∧ ∃ b5 o5 : Nat, (va4 = some ⟨b5, o5, none⟩) ∧
  canSet (setAll H_1 b4 (o4 + (IntKind.i64.wrap (k - 1)).toNat * 2) [(.int .i64 c0), (.int .i64 c1)]) b5 (o5 + k.toNat * 2) [(.int .i64 c0_1), (.int .i64 c1_1)] ∧
  Inv (IntKind.i64.wrap (k - 1)) (setAll (setAll H_1 b4 (o4 + (IntKind.i64.wrap (k - 1)).toNat * 2) [(.int .i64 c0), (.int .i64 c1)]) b5 (o5 + k.toNat * 2) [(.int .i64 c0_1), (.int .i64 c1_1)]) ∧ mu (IntKind.i64.wrap (k - 1)) (setAll (setAll H_1 b4 (o4 + (IntKind.i64.wrap (k - 1)).toNat * 2) [(.int .i64 c0), (.int .i64 c1)]) b5 (o5 + k.toNat * 2) [(.int .i64 c0_1), (.int .i64 c1_1)]) < mu k H_1) ∧
  ((((decide (0 < k)) && (decide (v1 < v)))) = false →
  K (.tuple #[]) H_1)

def Rput.r2 (hb : Nat) (ho : Nat) (K : Value → Heap → Prop) (vn : Nat) (H_ : Heap) : Prop :=
  ∃ (Inv : Int → Heap → Prop) (mu : Int → Heap → Nat), Inv (vn : Int) H_ ∧
  ∀ (k : Int), ∀ H_1 : Heap, Inv k H_1 → Rput.l1 hb ho K Inv mu k H_1

def Rput.code (hb : Nat) (ho : Nat) (r0 : Int) (r1 : Int) (H : Heap) (K : Value → Heap → Prop) : Prop :=
  ∃ va : Option Addr, ∃ vn : Nat, ∃ vc : Nat, cellAt (H.push (.cells #[(.int .i64 r0), (.int .i64 r1)] 56)) hb (ho + 2) = some (.slice va vn vc) ∧
  ∀ Jn : Heap → Prop, (∀ H_ : Heap, Rput.r2 hb ho K vn H_ → Jn H_) →
  ∃ va7 : Option Addr, ∃ vn7 : Nat, ∃ vc7 : Nat, cellAt (H.push (.cells #[(.int .i64 r0), (.int .i64 r1)] 56)) hb (ho + 2) = some (.slice va7 vn7 vc7) ∧
  ∃ c0_2 : Int, ∃ c1_2 : Int, cellsAre (H.push (.cells #[(.int .i64 r0), (.int .i64 r1)] 56)) H.size 0 [(.int .i64 c0_2), (.int .i64 c1_2)] ∧
  (cellsAre ((H.push (.cells #[(.int .i64 r0), (.int .i64 r1)] 56)).push (.cells #[] 56)) H.size 0 [(.int .i64 c0_2), (.int .i64 c1_2)] ∧
  cellAt ((H.push (.cells #[(.int .i64 r0), (.int .i64 r1)] 56)).push (.cells #[] 56)) hb (ho + 2) = some (.slice va7 vn7 vc7) ∧
  (RunW Try.prog (Builtin.append_ #[42, 42] 42 #[(.slice (some ⟨(H.push (.cells #[(.int .i64 r0), (.int .i64 r1)] 56)).size, 0, none⟩) 0 0), (.slice va7 vn7 vc7)]) ((H.push (.cells #[(.int .i64 r0), (.int .i64 r1)] 56)).push (.cells #[] 56)) fun u H_2 =>
  ∃ sa : Option Addr, ∃ sn : Nat, ∃ sc : Nat, u = (.slice sa sn sc) ∧
  cellsAre H_2 H.size 0 [(.int .i64 c0_2), (.int .i64 c1_2)] ∧
  RunW Try.prog (Builtin.append_ #[42, 42] 42 #[(.slice sa sn sc), (.slice (some ⟨H_2.size, 0, none⟩) 1 1)]) (H_2.push (.cells #[(.int .i64 c0_2), (.int .i64 c1_2)] 56)) fun u1 H_3 =>
  ∃ sa1 : Option Addr, ∃ sn1 : Nat, ∃ sc1 : Nat, u1 = (.slice sa1 sn1 sc1) ∧
  canSet H_3 hb (ho + 2) [(.slice sa1 sn1 sc1)] ∧
  Jn (setAll H_3 hb (ho + 2) [(.slice sa1 sn1 sc1)])) ∧
  (cellAt (((H.push (.cells #[(.int .i64 r0), (.int .i64 r1)] 56)).push (.cells #[] 56)).push (.cells #[(.int .i64 c0_2), (.int .i64 c1_2)] 56)) hb (ho + 2) = some (.slice va7 vn7 vc7) ∧
  RunW Try.prog (Builtin.append_ #[42, 42] 42 #[(.slice (some ⟨(H.push (.cells #[(.int .i64 r0), (.int .i64 r1)] 56)).size, 0, none⟩) 0 0), (.slice va7 vn7 vc7)]) (((H.push (.cells #[(.int .i64 r0), (.int .i64 r1)] 56)).push (.cells #[] 56)).push (.cells #[(.int .i64 c0_2), (.int .i64 c1_2)] 56)) fun u2 H_4 =>
  ∃ sa2 : Option Addr, ∃ sn2 : Nat, ∃ sc2 : Nat, u2 = (.slice sa2 sn2 sc2) ∧
  RunW Try.prog (Builtin.append_ #[42, 42] 42 #[(.slice sa2 sn2 sc2), (.slice (some ⟨((H.push (.cells #[(.int .i64 r0), (.int .i64 r1)] 56)).push (.cells #[] 56)).size, 0, none⟩) 1 1)]) H_4 fun u3 H_5 =>
  ∃ sa3 : Option Addr, ∃ sn3 : Nat, ∃ sc3 : Nat, u3 = (.slice sa3 sn3 sc3) ∧
  canSet H_5 hb (ho + 2) [(.slice sa3 sn3 sc3)] ∧
  Jn (setAll H_5 hb (ho + 2) [(.slice sa3 sn3 sc3)]))) ∧
  (cellAt ((H.push (.cells #[(.int .i64 r0), (.int .i64 r1)] 56)).push (.cells #[(.int .i64 c0_2), (.int .i64 c1_2)] 56)) hb (ho + 2) = some (.slice va7 vn7 vc7) ∧
  cellAt (((H.push (.cells #[(.int .i64 r0), (.int .i64 r1)] 56)).push (.cells #[(.int .i64 c0_2), (.int .i64 c1_2)] 56)).push (.cells #[] 56)) hb (ho + 2) = some (.slice va7 vn7 vc7) ∧
  RunW Try.prog (Builtin.append_ #[42, 42] 42 #[(.slice (some ⟨((H.push (.cells #[(.int .i64 r0), (.int .i64 r1)] 56)).push (.cells #[(.int .i64 c0_2), (.int .i64 c1_2)] 56)).size, 0, none⟩) 0 0), (.slice va7 vn7 vc7)]) (((H.push (.cells #[(.int .i64 r0), (.int .i64 r1)] 56)).push (.cells #[(.int .i64 c0_2), (.int .i64 c1_2)] 56)).push (.cells #[] 56)) fun u4 H_6 =>
  ∃ sa4 : Option Addr, ∃ sn4 : Nat, ∃ sc4 : Nat, u4 = (.slice sa4 sn4 sc4) ∧
  RunW Try.prog (Builtin.append_ #[42, 42] 42 #[(.slice sa4 sn4 sc4), (.slice (some ⟨(H.push (.cells #[(.int .i64 r0), (.int .i64 r1)] 56)).size, 0, none⟩) 1 1)]) H_6 fun u5 H_7 =>
  ∃ sa5 : Option Addr, ∃ sn5 : Nat, ∃ sc5 : Nat, u5 = (.slice sa5 sn5 sc5) ∧
  canSet H_7 hb (ho + 2) [(.slice sa5 sn5 sc5)] ∧
  Jn (setAll H_7 hb (ho + 2) [(.slice sa5 sn5 sc5)]))

def Rput.ann : Ann := (.seq .reg (.seq .reg (.seq (.regJ []) (.blk (.loop [(4, .one (.int .i64))] (.seq (.seq .reg (.cond .no .no)) (.blk (.seq .reg .reg))))))))

theorem Rput.eq (hb : Nat) (ho : Nat) (r0 : Int) (r1 : Int) (H : Heap) (K : Value → Heap → Prop) : vcFun X Try.f22 Rput.ann [(.pointer (some ⟨hb, ho, none⟩)), (.agg #[(.int .i64 r0), (.int .i64 r1)])] H K = Rput.code hb ho r0 r1 H K := by kernel_rfl

theorem Rput.call {hb : Nat} {ho : Nat} {r0 : Int} {r1 : Int} {H : Heap} {K : Value → Heap → Prop} (h : Rput.code hb ho r0 r1 H K) : CallF Try.prog 22 #[(.pointer (some ⟨hb, ho, none⟩)), (.agg #[(.int .i64 r0), (.int .i64 r1)])] H K :=
  callF_of_eq X_P X_wide X_bodied Try.func22 (Rput.eq hb ho r0 r1 H K) h

def ROffer.r1 (Inv : Int → Int → Heap → Prop) (mu : Int → Int → Heap → Nat) (refused : Int) (i : Int) (H_ : Heap) (refused1 : Int) (H_1 : Heap) : Prop :=
  Inv refused1 (IntKind.i64.wrap (i + 1)) H_1 ∧ mu refused1 (IntKind.i64.wrap (i + 1)) H_1 < mu refused i H_

def ROffer.l2 (hb : Nat) (ho : Nat) (K : Value → Heap → Prop) (refused : Int) (Inv1 : (Option Addr) → Nat → Nat → Heap → Prop) (mu1 : (Option Addr) → Nat → Nat → Heap → Nat) (readya : Option Addr) (readyn : Nat) (readyc : Nat) (H_3 : Heap) : Prop :=
  ∃ va : Option Addr, ∃ vn : Nat, ∃ vc : Nat, cellAt H_3 hb (ho + 2) = some (.slice va vn vc) ∧
  (((decide (0 < (vn : Int))) = true) → True) ∧
  ∃ va1 : Option Addr, ∃ vn1 : Nat, ∃ vc1 : Nat, (((decide (0 < (vn : Int))) = true) → cellAt H_3 hb (ho + 2) = some (.slice va1 vn1 vc1)) ∧
  (((decide (0 < (vn : Int))) = true) → ((0 : Int) ≤ 0 ∧ 0 < (vn1 : Int))) ∧ ∃ b1 o1 : Nat, (((decide (0 < (vn : Int))) = true) → (va1 = some ⟨b1, o1, none⟩)) ∧
  ∃ v4 : Int, (((decide (0 < (vn : Int))) = true) → cellAt H_3 b1 (o1 + 0 * 2) = some (.int .i64 v4)) ∧
  (((decide (0 < (vn : Int))) = true) → True) ∧
  ∃ v5 : Int, (((decide (0 < (vn : Int))) = true) → cellAt H_3 hb ho = some (.int .i64 v5)) ∧
  ((((decide (0 < (vn : Int))) && (decide (v4 = v5)))) = true →
  ∃ va2 : Option Addr, ∃ vn2 : Nat, ∃ vc2 : Nat, cellAt H_3 hb (ho + 2) = some (.slice va2 vn2 vc2) ∧
  ((0 : Int) ≤ 0 ∧ 0 < (vn2 : Int)) ∧ ∃ b2 o2 : Nat, (va2 = some ⟨b2, o2, none⟩) ∧
  ∃ v6 : Int, cellAt H_3 b2 (o2 + 0 * 2 + 1) = some (.int .i64 v6) ∧
  RunW Try.prog (Builtin.append_ #[32, 32] 32 #[(.slice readya readyn readyc), (.slice (some ⟨H_3.size, 0, none⟩) 1 1)]) (H_3.push (.cells #[(.int .i64 v6)] 2)) fun u1 H_4 =>
  ∃ sa : Option Addr, ∃ sn : Nat, ∃ sc : Nat, u1 = (.slice sa sn sc) ∧
  ∃ va3 : Option Addr, ∃ vn3 : Nat, ∃ vc3 : Nat, cellAt H_4 hb (ho + 2) = some (.slice va3 vn3 vc3) ∧
  ((0 : Int) ≤ 1 ∧ 1 ≤ (vn3 : Int) ∧ (vn3 : Int) ≤ (vc3 : Int)) ∧
  canSet H_4 hb (ho + 2) [(.slice (slB va3 1 vc3 2) (vn3 - 1) (vc3 - 1))] ∧
  ∃ v7 : Int, cellAt (setAll H_4 hb (ho + 2) [(.slice (slB va3 1 vc3 2) (vn3 - 1) (vc3 - 1))]) hb ho = some (.int .i64 v7) ∧
  canSet (setAll H_4 hb (ho + 2) [(.slice (slB va3 1 vc3 2) (vn3 - 1) (vc3 - 1))]) hb ho [(.int .i64 (IntKind.i64.wrap (v7 + 1)))] ∧
  Inv1 sa sn sc (setAll (setAll H_4 hb (ho + 2) [(.slice (slB va3 1 vc3 2) (vn3 - 1) (vc3 - 1))]) hb ho [(.int .i64 (IntKind.i64.wrap (v7 + 1)))]) ∧ mu1 sa sn sc (setAll (setAll H_4 hb (ho + 2) [(.slice (slB va3 1 vc3 2) (vn3 - 1) (vc3 - 1))]) hb ho [(.int .i64 (IntKind.i64.wrap (v7 + 1)))]) < mu1 readya readyn readyc H_3) ∧
  ((((decide (0 < (vn : Int))) && (decide (v4 = v5)))) = false →
  K (.tuple #[(.slice readya readyn readyc), (.int .i64 refused)]) H_3)

def ROffer.l3 (hb : Nat) (ho : Nat) (first : Int) (itemsa : Option Addr) (itemsn : Nat) (H : Heap) (K : Value → Heap → Prop) (Inv : Int → Int → Heap → Prop) (mu : Int → Int → Heap → Nat) (refused : Int) (i : Int) (H_ : Heap) : Prop :=
  (((decide (i < (itemsn : Int)))) = true →
  ∀ Jn : Int → Heap → Prop, (∀ (refused1 : Int), ∀ H_1 : Heap, ROffer.r1 Inv mu refused i H_ refused1 H_1 → Jn refused1 H_1) →
  ∃ v : Int, cellAt H_ hb ho = some (.int .i64 v) ∧
  ∃ r : Bool, (((decide ((IntKind.i64.wrap (first + i)) < v)) = false) → CallQ Try.prog 21 #[(.pointer (some ⟨hb, ho, none⟩)), (.int .i64 (IntKind.i64.wrap (first + i)))] H_ (.bool r)) ∧
  ((((decide ((IntKind.i64.wrap (first + i)) < v)) || r)) = true →
  Jn refused H_) ∧
  ((((decide ((IntKind.i64.wrap (first + i)) < v)) || r)) = false →
  ∃ v1 : Int, cellAt H_ hb ho = some (.int .i64 v1) ∧
  ∃ v2 : Int, cellAt H_ hb (ho + 1) = some (.int .i64 v2) ∧
  (((decide ((IntKind.i64.wrap (v1 + v2)) ≤ (IntKind.i64.wrap (first + i))))) = true →
  Jn (IntKind.i64.wrap (refused + 1)) H_) ∧
  (((decide ((IntKind.i64.wrap (v1 + v2)) ≤ (IntKind.i64.wrap (first + i))))) = false →
  ((0 : Int) ≤ i ∧ i < (itemsn : Int)) ∧ ∃ b o : Nat, (itemsa = some ⟨b, o, none⟩) ∧
  ∃ v3 : Int, cellAt H_ b (o + i.toNat) = some (.int .i64 v3) ∧
  CallF Try.prog 22 #[(.pointer (some ⟨hb, ho, none⟩)), (.agg #[(.int .i64 (IntKind.i64.wrap (first + i))), (.int .i64 v3)])] H_ fun u H_2 => u = (.tuple #[]) ∧
  Jn refused H_2))) ∧
  (((decide (i < (itemsn : Int)))) = false →
  ∃ (Inv1 : (Option Addr) → Nat → Nat → Heap → Prop) (mu1 : (Option Addr) → Nat → Nat → Heap → Nat), Inv1 (some ⟨H.size, 0, none⟩) 0 0 H_ ∧
  ∀ (readya : Option Addr) (readyn : Nat) (readyc : Nat), ∀ H_3 : Heap, Inv1 readya readyn readyc H_3 → ROffer.l2 hb ho K refused Inv1 mu1 readya readyn readyc H_3)

def ROffer.code (hb : Nat) (ho : Nat) (first : Int) (itemsa : Option Addr) (itemsn : Nat) (itemsc : Nat) (H : Heap) (K : Value → Heap → Prop) : Prop :=
  ((((decide (first < 0)) || (decide (2199023255552 < first)))) = true →
  K (.tuple #[(.slice (some ⟨H.size, 0, none⟩) 0 0), (.int .i64 (itemsn : Int))]) (H.push (.cells #[] 2))) ∧
  ((((decide (first < 0)) || (decide (2199023255552 < first)))) = false →
  ∃ (Inv : Int → Int → Heap → Prop) (mu : Int → Int → Heap → Nat), Inv 0 0 (H.push (.cells #[] 2)) ∧
  ∀ (refused : Int) (i : Int), ∀ H_ : Heap, Inv refused i H_ → ROffer.l3 hb ho first itemsa itemsn H K Inv mu refused i H_)

def ROffer.ann : Ann := (.seq .reg (.seq .reg (.seq .reg (.seq (.seq .reg (.cond (.seq .reg .no) .no)) (.seq (.seq .reg (.blk (.loop [(9, .one (.int .i64)), (10, .one (.int .i64))] (.seq (.seq .reg (.cond .no .no)) (.seq (.blkJ [(9, .one (.int .i64))] (.seq .reg (.seq (.seq .reg (.cond .no .no)) (.seq (.seq .reg (.cond (.seq .reg .no) .no)) .reg)))) .reg))))) (.seq (.blk (.loop [(8, .one (.slice))] (.seq (.seq .reg (.cond .no .no)) (.blk (.seq .reg (.seq .reg .reg)))))) (.seq .reg .no)))))))

theorem ROffer.eq (hb : Nat) (ho : Nat) (first : Int) (itemsa : Option Addr) (itemsn : Nat) (itemsc : Nat) (H : Heap) (K : Value → Heap → Prop) : vcFun X Try.f13 ROffer.ann [(.pointer (some ⟨hb, ho, none⟩)), (.int .i64 first), (.slice itemsa itemsn itemsc)] H K = ROffer.code hb ho first itemsa itemsn itemsc H K := by kernel_rfl

theorem ROffer.call {hb : Nat} {ho : Nat} {first : Int} {itemsa : Option Addr} {itemsn : Nat} {itemsc : Nat} {H : Heap} {K : Value → Heap → Prop} (h : ROffer.code hb ho first itemsa itemsn itemsc H K) : CallF Try.prog 13 #[(.pointer (some ⟨hb, ho, none⟩)), (.int .i64 first), (.slice itemsa itemsn itemsc)] H K :=
  callF_of_eq X_P X_wide X_bodied Try.func13 (ROffer.eq hb ho first itemsa itemsn itemsc H K) h

def RWaiting.l1 (hb : Nat) (ho : Nat) (K : Value → Heap → Prop) (Inv : (Option Addr) → Nat → Nat → Int → Heap → Prop) (mu : (Option Addr) → Nat → Nat → Int → Heap → Nat) (outa : Option Addr) (outn : Nat) (outc : Nat) (i : Int) (H_ : Heap) : Prop :=
  ∃ va : Option Addr, ∃ vn : Nat, ∃ vc : Nat, cellAt H_ hb (ho + 2) = some (.slice va vn vc) ∧
  (((decide (i < (vn : Int)))) = true →
  ∃ va1 : Option Addr, ∃ vn1 : Nat, ∃ vc1 : Nat, cellAt H_ hb (ho + 2) = some (.slice va1 vn1 vc1) ∧
  ((0 : Int) ≤ i ∧ i < (vn1 : Int)) ∧ ∃ b o : Nat, (va1 = some ⟨b, o, none⟩) ∧
  ∃ v : Int, cellAt H_ b (o + i.toNat * 2) = some (.int .i64 v) ∧
  RunW Try.prog (Builtin.append_ #[32, 32] 32 #[(.slice outa outn outc), (.slice (some ⟨H_.size, 0, none⟩) 1 1)]) (H_.push (.cells #[(.int .i64 v)] 2)) fun u H_1 =>
  ∃ sa : Option Addr, ∃ sn : Nat, ∃ sc : Nat, u = (.slice sa sn sc) ∧
  Inv sa sn sc (IntKind.i64.wrap (i + 1)) H_1 ∧ mu sa sn sc (IntKind.i64.wrap (i + 1)) H_1 < mu outa outn outc i H_) ∧
  (((decide (i < (vn : Int)))) = false →
  K (.slice outa outn outc) H_)

def RWaiting.code (hb : Nat) (ho : Nat) (H : Heap) (K : Value → Heap → Prop) : Prop :=
  ∃ (Inv : (Option Addr) → Nat → Nat → Int → Heap → Prop) (mu : (Option Addr) → Nat → Nat → Int → Heap → Nat), Inv (some ⟨H.size, 0, none⟩) 0 0 0 (H.push (.cells #[] 2)) ∧
  ∀ (outa : Option Addr) (outn : Nat) (outc : Nat) (i : Int), ∀ H_ : Heap, Inv outa outn outc i H_ → RWaiting.l1 hb ho K Inv mu outa outn outc i H_

def RWaiting.ann : Ann := (.seq .reg (.seq .reg (.seq (.seq .reg (.blk (.loop [(3, .one (.slice)), (4, .one (.int .i64))] (.seq (.seq .reg (.cond .no .no)) (.seq (.blk .reg) .reg))))) (.seq .reg .no))))

theorem RWaiting.eq (hb : Nat) (ho : Nat) (H : Heap) (K : Value → Heap → Prop) : vcFun X Try.f19 RWaiting.ann [(.pointer (some ⟨hb, ho, none⟩))] H K = RWaiting.code hb ho H K := by kernel_rfl

theorem RWaiting.call {hb : Nat} {ho : Nat} {H : Heap} {K : Value → Heap → Prop} (h : RWaiting.code hb ho H K) : CallF Try.prog 19 #[(.pointer (some ⟨hb, ho, none⟩))] H K :=
  callF_of_eq X_P X_wide X_bodied Try.func19 (RWaiting.eq hb ho H K) h

def RDrain.l1 (hb : Nat) (ho : Nat) (K : Value → Heap → Prop) (Inv : (Option Addr) → Nat → Nat → Int → Heap → Prop) (mu : (Option Addr) → Nat → Nat → Int → Heap → Nat) (outa : Option Addr) (outn : Nat) (outc : Nat) (i : Int) (H_ : Heap) : Prop :=
  ∃ va : Option Addr, ∃ vn : Nat, ∃ vc : Nat, cellAt H_ hb (ho + 2) = some (.slice va vn vc) ∧
  (((decide (i < (vn : Int)))) = true →
  ∃ va1 : Option Addr, ∃ vn1 : Nat, ∃ vc1 : Nat, cellAt H_ hb (ho + 2) = some (.slice va1 vn1 vc1) ∧
  ((0 : Int) ≤ i ∧ i < (vn1 : Int)) ∧ ∃ b o : Nat, (va1 = some ⟨b, o, none⟩) ∧
  ∃ v : Int, cellAt H_ b (o + i.toNat * 2 + 1) = some (.int .i64 v) ∧
  RunW Try.prog (Builtin.append_ #[32, 32] 32 #[(.slice outa outn outc), (.slice (some ⟨H_.size, 0, none⟩) 1 1)]) (H_.push (.cells #[(.int .i64 v)] 2)) fun u H_1 =>
  ∃ sa : Option Addr, ∃ sn : Nat, ∃ sc : Nat, u = (.slice sa sn sc) ∧
  Inv sa sn sc (IntKind.i64.wrap (i + 1)) H_1 ∧ mu sa sn sc (IntKind.i64.wrap (i + 1)) H_1 < mu outa outn outc i H_) ∧
  (((decide (i < (vn : Int)))) = false →
  canSet H_ hb (ho + 2) [(.slice none 0 0)] ∧
  K (.slice outa outn outc) (setAll H_ hb (ho + 2) [(.slice none 0 0)]))

def RDrain.code (hb : Nat) (ho : Nat) (H : Heap) (K : Value → Heap → Prop) : Prop :=
  ∃ (Inv : (Option Addr) → Nat → Nat → Int → Heap → Prop) (mu : (Option Addr) → Nat → Nat → Int → Heap → Nat), Inv (some ⟨H.size, 0, none⟩) 0 0 0 (H.push (.cells #[] 2)) ∧
  ∀ (outa : Option Addr) (outn : Nat) (outc : Nat) (i : Int), ∀ H_ : Heap, Inv outa outn outc i H_ → RDrain.l1 hb ho K Inv mu outa outn outc i H_

def RDrain.ann : Ann := (.seq .reg (.seq .reg (.seq (.seq .reg (.blk (.loop [(3, .one (.slice)), (4, .one (.int .i64))] (.seq (.seq .reg (.cond .no .no)) (.seq (.blk .reg) .reg))))) (.seq .reg (.seq .reg .no)))))

theorem RDrain.eq (hb : Nat) (ho : Nat) (H : Heap) (K : Value → Heap → Prop) : vcFun X Try.f16 RDrain.ann [(.pointer (some ⟨hb, ho, none⟩))] H K = RDrain.code hb ho H K := by kernel_rfl

theorem RDrain.call {hb : Nat} {ho : Nat} {H : Heap} {K : Value → Heap → Prop} (h : RDrain.code hb ho H K) : CallF Try.prog 16 #[(.pointer (some ⟨hb, ho, none⟩))] H K :=
  callF_of_eq X_P X_wide X_bodied Try.func16 (RDrain.eq hb ho H K) h

def great.l1 (callsa : Option Addr) (callsn : Nat) (K : Value → Heap → Prop) (Inv : Int → Heap → Prop) (mu : Int → Heap → Nat) (i : Int) (H_ : Heap) : Prop :=
  (((decide (i < (callsn : Int)))) = true →
  ((0 : Int) ≤ i ∧ i < (callsn : Int)) ∧ ∃ b o : Nat, (callsa = some ⟨b, o, none⟩) ∧
  ∃ va : Option Addr, ∃ vn : Nat, ∃ vc : Nat, cellAt H_ b (o + i.toNat * 3 + 2) = some (.slice va vn vc) ∧
  (((decide (100 < (vn : Int)))) = true →
  K (.bool true) H_) ∧
  (((decide (100 < (vn : Int)))) = false →
  Inv (IntKind.i64.wrap (i + 1)) H_ ∧ mu (IntKind.i64.wrap (i + 1)) H_ < mu i H_)) ∧
  (((decide (i < (callsn : Int)))) = false →
  K (.bool false) H_)

def great.code (callsa : Option Addr) (callsn : Nat) (callsc : Nat) (H : Heap) (K : Value → Heap → Prop) : Prop :=
  (((decide (60 < (callsn : Int)))) = true →
  K (.bool true) H) ∧
  (((decide (60 < (callsn : Int)))) = false →
  ∃ (Inv : Int → Heap → Prop) (mu : Int → Heap → Nat), Inv 0 H ∧
  ∀ (i : Int), ∀ H_ : Heap, Inv i H_ → great.l1 callsa callsn K Inv mu i H_)

def great.ann : Ann := (.seq .reg (.seq (.seq .reg (.cond (.seq .reg .no) .no)) (.seq (.seq .reg (.blk (.loop [(3, .one (.int .i64))] (.seq (.seq .reg (.cond .no .no)) (.seq (.blk (.seq .reg (.cond (.seq .reg .no) .no))) .reg))))) (.seq .reg .no))))

theorem great.eq (callsa : Option Addr) (callsn : Nat) (callsc : Nat) (H : Heap) (K : Value → Heap → Prop) : vcFun X Try.f8 great.ann [(.slice callsa callsn callsc)] H K = great.code callsa callsn callsc H K := by kernel_rfl

theorem great.call {callsa : Option Addr} {callsn : Nat} {callsc : Nat} {H : Heap} {K : Value → Heap → Prop} (h : great.code callsa callsn callsc H K) : CallF Try.prog 8 #[(.slice callsa callsn callsc)] H K :=
  callF_of_eq X_P X_wide X_bodied Try.func8 (great.eq callsa callsn callsc H K) h

def alive.r1 (K : Value → Heap → Prop) (t0 : Bool) (H_7 : Heap) : Prop :=
  K (.bool t0) H_7

def alive.code  (H : Heap) (K : Value → Heap → Prop) : Prop :=
  CallF Try.prog 9 #[(.int .i64 5), (.int .i64 4)] H fun u H_ => ∃ r : Option Addr, ∃ r1 : Int, u = (.tuple #[(.pointer r), (.int .i64 r1)]) ∧
  ((((!decide (r1 = 0)) || r.isNone)) = true →
  K (.bool false) H_) ∧
  ((((!decide (r1 = 0)) || r.isNone)) = false →
  CallF Try.prog 12 #[(.pointer r), (.int .i64 6), (.slice (some ⟨H_.size, 0, none⟩) 2 2)] (H_.push (.cells #[(.int .i64 7), (.int .i64 8)] 2)) fun u1 H_1 => ∃ ra : Option Addr, ∃ rn : Nat, ∃ rc : Nat, ∃ r2 : Int, u1 = (.tuple #[(.slice ra rn rc), (.int .i64 r2)]) ∧
  CallF Try.prog 20 #[(.pointer r)] H_1 fun u2 H_2 => ∃ r3 : Option Addr, u2 = (.pointer r3) ∧
  CallF Try.prog 12 #[(.pointer r), (.int .i64 5), (.slice (some ⟨H_2.size, 0, none⟩) 2 2)] (H_2.push (.cells #[(.int .i64 6), (.int .i64 99)] 2)) fun u3 H_3 => ∃ ra1 : Option Addr, ∃ rn1 : Nat, ∃ rc1 : Nat, ∃ r4 : Int, u3 = (.tuple #[(.slice ra1 rn1 rc1), (.int .i64 r4)]) ∧
  CallF Try.prog 12 #[(.pointer r), (.int .i64 12), (.slice (some ⟨H_3.size, 0, none⟩) 1 1)] (H_3.push (.cells #[(.int .i64 1)] 2)) fun u4 H_4 => ∃ ra2 : Option Addr, ∃ rn2 : Nat, ∃ rc2 : Nat, ∃ r5 : Int, u4 = (.tuple #[(.slice ra2 rn2 rc2), (.int .i64 r5)]) ∧
  ((r3.isNone) = true →
  K (.bool false) H_4) ∧
  ((r3.isNone) = false →
  CallF Try.prog 18 #[(.pointer r3)] H_4 fun u5 H_5 => ∃ ra3 : Option Addr, ∃ rn3 : Nat, ∃ rc3 : Nat, u5 = (.slice ra3 rn3 rc3) ∧
  CallF Try.prog 15 #[(.pointer r3)] H_5 fun u6 H_6 => ∃ ra4 : Option Addr, ∃ rn4 : Nat, ∃ rc4 : Nat, u6 = (.slice ra4 rn4 rc4) ∧
  ∀ Jn : Bool → Heap → Prop, (∀ (t0 : Bool), ∀ H_7 : Heap, alive.r1 K t0 H_7 → Jn t0 H_7) →
  ((((decide ((rn : Int) = 0)) && (decide (r2 = 0))) = true) →
  ∃ r6 : Bool, CallQ Try.prog 14 #[(.slice ra1 rn1 rc1), (.slice (some ⟨H_6.size, 0, none⟩) 3 3)] (H_6.push (.cells #[(.int .i64 6), (.int .i64 7), (.int .i64 8)] 2)) (.bool r6) ∧
  ∃ r7 : Int, ((((r6 && (decide (r4 = 0))) && (decide (r5 = 1))) = true) → CallQ Try.prog 17 #[(.pointer r)] (H_6.push (.cells #[(.int .i64 6), (.int .i64 7), (.int .i64 8)] 2)) (.int .i64 r7)) ∧
  ∃ r8 : Int, (((((r6 && (decide (r4 = 0))) && (decide (r5 = 1))) && (decide (r7 = 8))) = true) → CallQ Try.prog 17 #[(.pointer r3)] (H_6.push (.cells #[(.int .i64 6), (.int .i64 7), (.int .i64 8)] 2)) (.int .i64 r8)) ∧
  ((((((r6 && (decide (r4 = 0))) && (decide (r5 = 1))) && (decide (r7 = 8))) && (decide (r8 = 5))) = true) →
  ∃ r9 : Bool, CallQ Try.prog 14 #[(.slice ra3 rn3 rc3), (.slice (some ⟨(H_6.push (.cells #[(.int .i64 6), (.int .i64 7), (.int .i64 8)] 2)).size, 0, none⟩) 2 2)] ((H_6.push (.cells #[(.int .i64 6), (.int .i64 7), (.int .i64 8)] 2)).push (.cells #[(.int .i64 6), (.int .i64 7)] 2)) (.bool r9) ∧
  ((r9 = true) →
  ∃ r10 : Bool, CallQ Try.prog 14 #[(.slice ra4 rn4 rc4), (.slice (some ⟨((H_6.push (.cells #[(.int .i64 6), (.int .i64 7), (.int .i64 8)] 2)).push (.cells #[(.int .i64 6), (.int .i64 7)] 2)).size, 0, none⟩) 2 2)] (((H_6.push (.cells #[(.int .i64 6), (.int .i64 7), (.int .i64 8)] 2)).push (.cells #[(.int .i64 6), (.int .i64 7)] 2)).push (.cells #[(.int .i64 7), (.int .i64 8)] 2)) (.bool r10) ∧
  ((r10 = true) →
  CallF Try.prog 18 #[(.pointer r3)] (((H_6.push (.cells #[(.int .i64 6), (.int .i64 7), (.int .i64 8)] 2)).push (.cells #[(.int .i64 6), (.int .i64 7)] 2)).push (.cells #[(.int .i64 7), (.int .i64 8)] 2)) fun u7 H_8 => ∃ ra5 : Option Addr, ∃ rn5 : Nat, ∃ rc5 : Nat, u7 = (.slice ra5 rn5 rc5) ∧
  Jn (decide ((rn5 : Int) = 0)) H_8) ∧
  (¬ (r10 = true) →
  Jn false (((H_6.push (.cells #[(.int .i64 6), (.int .i64 7), (.int .i64 8)] 2)).push (.cells #[(.int .i64 6), (.int .i64 7)] 2)).push (.cells #[(.int .i64 7), (.int .i64 8)] 2)))) ∧
  (¬ (r9 = true) →
  ((false = true) →
  CallF Try.prog 18 #[(.pointer r3)] ((H_6.push (.cells #[(.int .i64 6), (.int .i64 7), (.int .i64 8)] 2)).push (.cells #[(.int .i64 6), (.int .i64 7)] 2)) fun u8 H_9 => ∃ ra6 : Option Addr, ∃ rn6 : Nat, ∃ rc6 : Nat, u8 = (.slice ra6 rn6 rc6) ∧
  Jn (decide ((rn6 : Int) = 0)) H_9) ∧
  (¬ (false = true) →
  Jn false ((H_6.push (.cells #[(.int .i64 6), (.int .i64 7), (.int .i64 8)] 2)).push (.cells #[(.int .i64 6), (.int .i64 7)] 2))))) ∧
  (¬ (((((r6 && (decide (r4 = 0))) && (decide (r5 = 1))) && (decide (r7 = 8))) && (decide (r8 = 5))) = true) →
  ((false = true) →
  ∃ r11 : Bool, CallQ Try.prog 14 #[(.slice ra4 rn4 rc4), (.slice (some ⟨(H_6.push (.cells #[(.int .i64 6), (.int .i64 7), (.int .i64 8)] 2)).size, 0, none⟩) 2 2)] ((H_6.push (.cells #[(.int .i64 6), (.int .i64 7), (.int .i64 8)] 2)).push (.cells #[(.int .i64 7), (.int .i64 8)] 2)) (.bool r11) ∧
  ((r11 = true) →
  CallF Try.prog 18 #[(.pointer r3)] ((H_6.push (.cells #[(.int .i64 6), (.int .i64 7), (.int .i64 8)] 2)).push (.cells #[(.int .i64 7), (.int .i64 8)] 2)) fun u9 H_10 => ∃ ra7 : Option Addr, ∃ rn7 : Nat, ∃ rc7 : Nat, u9 = (.slice ra7 rn7 rc7) ∧
  Jn (decide ((rn7 : Int) = 0)) H_10) ∧
  (¬ (r11 = true) →
  Jn false ((H_6.push (.cells #[(.int .i64 6), (.int .i64 7), (.int .i64 8)] 2)).push (.cells #[(.int .i64 7), (.int .i64 8)] 2)))) ∧
  (¬ (false = true) →
  ((false = true) →
  CallF Try.prog 18 #[(.pointer r3)] (H_6.push (.cells #[(.int .i64 6), (.int .i64 7), (.int .i64 8)] 2)) fun u10 H_11 => ∃ ra8 : Option Addr, ∃ rn8 : Nat, ∃ rc8 : Nat, u10 = (.slice ra8 rn8 rc8) ∧
  Jn (decide ((rn8 : Int) = 0)) H_11) ∧
  (¬ (false = true) →
  Jn false (H_6.push (.cells #[(.int .i64 6), (.int .i64 7), (.int .i64 8)] 2)))))) ∧
  (¬ (((decide ((rn : Int) = 0)) && (decide (r2 = 0))) = true) →
  ∃ r12 : Int, ((((false && (decide (r4 = 0))) && (decide (r5 = 1))) = true) → CallQ Try.prog 17 #[(.pointer r)] H_6 (.int .i64 r12)) ∧
  ∃ r13 : Int, (((((false && (decide (r4 = 0))) && (decide (r5 = 1))) && (decide (r12 = 8))) = true) → CallQ Try.prog 17 #[(.pointer r3)] H_6 (.int .i64 r13)) ∧
  ((((((false && (decide (r4 = 0))) && (decide (r5 = 1))) && (decide (r12 = 8))) && (decide (r13 = 5))) = true) →
  ∃ r14 : Bool, CallQ Try.prog 14 #[(.slice ra3 rn3 rc3), (.slice (some ⟨H_6.size, 0, none⟩) 2 2)] (H_6.push (.cells #[(.int .i64 6), (.int .i64 7)] 2)) (.bool r14) ∧
  ((r14 = true) →
  ∃ r15 : Bool, CallQ Try.prog 14 #[(.slice ra4 rn4 rc4), (.slice (some ⟨(H_6.push (.cells #[(.int .i64 6), (.int .i64 7)] 2)).size, 0, none⟩) 2 2)] ((H_6.push (.cells #[(.int .i64 6), (.int .i64 7)] 2)).push (.cells #[(.int .i64 7), (.int .i64 8)] 2)) (.bool r15) ∧
  ((r15 = true) →
  CallF Try.prog 18 #[(.pointer r3)] ((H_6.push (.cells #[(.int .i64 6), (.int .i64 7)] 2)).push (.cells #[(.int .i64 7), (.int .i64 8)] 2)) fun u11 H_12 => ∃ ra9 : Option Addr, ∃ rn9 : Nat, ∃ rc9 : Nat, u11 = (.slice ra9 rn9 rc9) ∧
  Jn (decide ((rn9 : Int) = 0)) H_12) ∧
  (¬ (r15 = true) →
  Jn false ((H_6.push (.cells #[(.int .i64 6), (.int .i64 7)] 2)).push (.cells #[(.int .i64 7), (.int .i64 8)] 2)))) ∧
  (¬ (r14 = true) →
  ((false = true) →
  CallF Try.prog 18 #[(.pointer r3)] (H_6.push (.cells #[(.int .i64 6), (.int .i64 7)] 2)) fun u12 H_13 => ∃ ra10 : Option Addr, ∃ rn10 : Nat, ∃ rc10 : Nat, u12 = (.slice ra10 rn10 rc10) ∧
  Jn (decide ((rn10 : Int) = 0)) H_13) ∧
  (¬ (false = true) →
  Jn false (H_6.push (.cells #[(.int .i64 6), (.int .i64 7)] 2))))) ∧
  (¬ (((((false && (decide (r4 = 0))) && (decide (r5 = 1))) && (decide (r12 = 8))) && (decide (r13 = 5))) = true) →
  ((false = true) →
  ∃ r16 : Bool, CallQ Try.prog 14 #[(.slice ra4 rn4 rc4), (.slice (some ⟨H_6.size, 0, none⟩) 2 2)] (H_6.push (.cells #[(.int .i64 7), (.int .i64 8)] 2)) (.bool r16) ∧
  ((r16 = true) →
  CallF Try.prog 18 #[(.pointer r3)] (H_6.push (.cells #[(.int .i64 7), (.int .i64 8)] 2)) fun u13 H_14 => ∃ ra11 : Option Addr, ∃ rn11 : Nat, ∃ rc11 : Nat, u13 = (.slice ra11 rn11 rc11) ∧
  Jn (decide ((rn11 : Int) = 0)) H_14) ∧
  (¬ (r16 = true) →
  Jn false (H_6.push (.cells #[(.int .i64 7), (.int .i64 8)] 2)))) ∧
  (¬ (false = true) →
  ((false = true) →
  CallF Try.prog 18 #[(.pointer r3)] H_6 fun u14 H_15 => ∃ ra12 : Option Addr, ∃ rn12 : Nat, ∃ rc12 : Nat, u14 = (.slice ra12 rn12 rc12) ∧
  Jn (decide ((rn12 : Int) = 0)) H_15) ∧
  (¬ (false = true) →
  Jn false H_6))))))

def alive.ann : Ann := (.seq .reg (.seq .reg (.seq (.seq .reg (.cond (.seq .reg .no) .no)) (.seq .reg (.seq .reg (.seq .reg (.seq .reg (.seq (.seq .reg (.cond (.seq .reg .no) .no)) (.seq .reg (.seq .reg (.seq (.regJ [(0, .one (.bool))]) .no)))))))))))

theorem alive.eq  (H : Heap) (K : Value → Heap → Prop) : vcFun X Try.f7 alive.ann [] H K = alive.code  H K := by kernel_rfl

theorem alive.call  {H : Heap} {K : Value → Heap → Prop} (h : alive.code  H K) : CallF Try.prog 7 #[] H K :=
  callF_of_eq X_P X_wide X_bodied Try.func7 (alive.eq  H K) h

def HoldCalls.r1 (K : Value → Heap → Prop) (Inv : Int → Heap → Prop) (mu : Int → Heap → Nat) (i : Int) (H_3 : Heap) (t138 : Bool) (H_5 : Heap) : Prop :=
  ((t138) = true →
  K (.bool false) H_5) ∧
  ((t138) = false →
  Inv (IntKind.i64.wrap (i + 1)) H_5 ∧ mu (IntKind.i64.wrap (i + 1)) H_5 < mu i H_3)

def HoldCalls.r2 (K : Value → Heap → Prop) (r1 : Bool) (r2 : Option Addr) (r4 : Option Addr) (Inv : Int → Heap → Prop) (mu : Int → Heap → Nat) (i : Int) (H_3 : Heap) (H_4 : Heap) : Prop :=
  ∀ Jn1 : Bool → Heap → Prop, (∀ (t138 : Bool), ∀ H_5 : Heap, HoldCalls.r1 K Inv mu i H_3 t138 H_5 → Jn1 t138 H_5) →
  ∃ r6 : Int, CallQ Try.prog 17 #[(.pointer r2)] H_4 (.int .i64 r6) ∧
  NN r4 (
  ∃ v1 : Int, cellAt H_4 (adrB r4) (adrO r4) = some (.int .i64 v1) ∧
  (((!decide (r6 = v1)) = false) →
  CallF Try.prog 18 #[(.pointer r2)] H_4 fun u3 H_6 => ∃ ra : Option Addr, ∃ rn : Nat, ∃ rc : Nat, u3 = (.slice ra rn rc) ∧
  CallF Try.prog 19 #[(.pointer r4)] H_6 fun u4 H_7 => ∃ ra1 : Option Addr, ∃ rn1 : Nat, ∃ rc1 : Nat, u4 = (.slice ra1 rn1 rc1) ∧
  ∃ r7 : Bool, CallQ Try.prog 14 #[(.slice ra rn rc), (.slice ra1 rn1 rc1)] H_7 (.bool r7) ∧
  Jn1 (!r7) H_7) ∧
  (¬ ((!decide (r6 = v1)) = false) →
  Jn1 true H_4))

def HoldCalls.l3 (K : Value → Heap → Prop) (Jn : Heap → Prop) (ra2 : Option Addr) (rn2 : Nat) (ra3 : Option Addr) (rn3 : Nat) (rc3 : Nat) (r8 : Int) (ra4 : Option Addr) (rn4 : Nat) (rc4 : Nat) (r9 : Int) (Inv1 : Int → Heap → Prop) (mu1 : Int → Heap → Nat) (k : Int) (H_11 : Heap) : Prop :=
  (((decide (k < (rn2 : Int)))) = true →
  ((0 : Int) ≤ k ∧ k < (rn2 : Int)) ∧ ∃ b5 o5 : Nat, (ra2 = some ⟨b5, o5, none⟩) ∧
  ∃ v4 : Int, cellAt H_11 b5 (o5 + k.toNat) = some (.int .i64 v4) ∧
  ((0 : Int) ≤ k ∧ k < (rn2 : Int)) ∧ ∃ b6 o6 : Nat, (ra2 = some ⟨b6, o6, none⟩) ∧
  canSet H_11 b6 (o6 + k.toNat) [(.int .i64 (IntKind.i64.wrap (v4 + 1)))] ∧
  Inv1 (IntKind.i64.wrap (k + 1)) (setAll H_11 b6 (o6 + k.toNat) [(.int .i64 (IntKind.i64.wrap (v4 + 1)))]) ∧ mu1 (IntKind.i64.wrap (k + 1)) (setAll H_11 b6 (o6 + k.toNat) [(.int .i64 (IntKind.i64.wrap (v4 + 1)))]) < mu1 k H_11) ∧
  (((decide (k < (rn2 : Int)))) = false →
  ∃ r10 : Bool, (((!decide (r8 = r9)) = false) → CallQ Try.prog 14 #[(.slice ra3 rn3 rc3), (.slice ra4 rn4 rc4)] H_11 (.bool r10)) ∧
  ((((!decide (r8 = r9)) || (!r10))) = true →
  K (.bool false) H_11) ∧
  ((((!decide (r8 = r9)) || (!r10))) = false →
  Jn H_11))

def HoldCalls.r4 (Jn : Heap → Prop) (H_12 : Heap) : Prop :=
  Jn H_12

def HoldCalls.l5 (callsa : Option Addr) (callsn : Nat) (K : Value → Heap → Prop) (r1 : Bool) (r2 : Option Addr) (r4 : Option Addr) (Inv : Int → Heap → Prop) (mu : Int → Heap → Nat) (i : Int) (H_3 : Heap) : Prop :=
  (((decide (i < (callsn : Int)))) = true →
  ((0 : Int) ≤ i ∧ i < (callsn : Int)) ∧ ∃ b o : Nat, (callsa = some ⟨b, o, none⟩) ∧
  ∃ v : Int, cellAt H_3 b (o + i.toNat * 3) = some (.int .i64 v) ∧
  ∀ Jn : Heap → Prop, (∀ H_4 : Heap, HoldCalls.r2 K r1 r2 r4 Inv mu i H_3 H_4 → Jn H_4) →
  (((decide (v = 0))) = true →
  ((0 : Int) ≤ i ∧ i < (callsn : Int)) ∧ ∃ b1 o1 : Nat, (callsa = some ⟨b1, o1, none⟩) ∧
  ∃ va : Option Addr, ∃ vn : Nat, ∃ vc : Nat, cellAt H_3 b1 (o1 + i.toNat * 3 + 2) = some (.slice va vn vc) ∧
  CallF Try.prog 11 #[(.slice va vn vc)] H_3 fun u5 H_8 => ∃ ra2 : Option Addr, ∃ rn2 : Nat, ∃ rc2 : Nat, u5 = (.slice ra2 rn2 rc2) ∧
  ((0 : Int) ≤ i ∧ i < (callsn : Int)) ∧ ∃ b2 o2 : Nat, (callsa = some ⟨b2, o2, none⟩) ∧
  ∃ v2 : Int, cellAt H_8 b2 (o2 + i.toNat * 3 + 1) = some (.int .i64 v2) ∧
  CallF Try.prog 12 #[(.pointer r2), (.int .i64 v2), (.slice ra2 rn2 rc2)] H_8 fun u6 H_9 => ∃ ra3 : Option Addr, ∃ rn3 : Nat, ∃ rc3 : Nat, ∃ r8 : Int, u6 = (.tuple #[(.slice ra3 rn3 rc3), (.int .i64 r8)]) ∧
  ((0 : Int) ≤ i ∧ i < (callsn : Int)) ∧ ∃ b3 o3 : Nat, (callsa = some ⟨b3, o3, none⟩) ∧
  ∃ v3 : Int, cellAt H_9 b3 (o3 + i.toNat * 3 + 1) = some (.int .i64 v3) ∧
  ((0 : Int) ≤ i ∧ i < (callsn : Int)) ∧ ∃ b4 o4 : Nat, (callsa = some ⟨b4, o4, none⟩) ∧
  ∃ va1 : Option Addr, ∃ vn1 : Nat, ∃ vc1 : Nat, cellAt H_9 b4 (o4 + i.toNat * 3 + 2) = some (.slice va1 vn1 vc1) ∧
  CallF Try.prog 13 #[(.pointer r4), (.int .i64 v3), (.slice va1 vn1 vc1)] H_9 fun u7 H_10 => ∃ ra4 : Option Addr, ∃ rn4 : Nat, ∃ rc4 : Nat, ∃ r9 : Int, u7 = (.tuple #[(.slice ra4 rn4 rc4), (.int .i64 r9)]) ∧
  ∃ (Inv1 : Int → Heap → Prop) (mu1 : Int → Heap → Nat), Inv1 0 H_10 ∧
  ∀ (k : Int), ∀ H_11 : Heap, Inv1 k H_11 → HoldCalls.l3 K Jn ra2 rn2 ra3 rn3 rc3 r8 ra4 rn4 rc4 r9 Inv1 mu1 k H_11) ∧
  (((decide (v = 0))) = false →
  ∀ Jn2 : Heap → Prop, (∀ H_12 : Heap, HoldCalls.r4 Jn H_12 → Jn2 H_12) →
  (((decide (v = 1))) = true →
  CallF Try.prog 15 #[(.pointer r2)] H_3 fun u8 H_13 => ∃ ra5 : Option Addr, ∃ rn5 : Nat, ∃ rc5 : Nat, u8 = (.slice ra5 rn5 rc5) ∧
  CallF Try.prog 16 #[(.pointer r4)] H_13 fun u9 H_14 => ∃ ra6 : Option Addr, ∃ rn6 : Nat, ∃ rc6 : Nat, u9 = (.slice ra6 rn6 rc6) ∧
  ∃ r11 : Bool, CallQ Try.prog 14 #[(.slice ra5 rn5 rc5), (.slice ra6 rn6 rc6)] H_14 (.bool r11) ∧
  (((!r11)) = true →
  K (.bool false) H_14) ∧
  (((!r11)) = false →
  Jn2 H_14)) ∧
  (((decide (v = 1))) = false →
  Jn2 H_3))) ∧
  (((decide (i < (callsn : Int)))) = false →
  K (.bool true) H_3)

def HoldCalls.code (next_ : Int) (most : Int) (callsa : Option Addr) (callsn : Nat) (callsc : Nat) (H : Heap) (K : Value → Heap → Prop) : Prop :=
  CallF Try.prog 7 #[] H fun u H_ => ∃ r : Bool, u = (.bool r) ∧
  (((!r)) = true →
  K (.bool false) H_) ∧
  (((!r)) = false →
  ∃ r1 : Bool, CallQ Try.prog 8 #[(.slice callsa callsn callsc)] H_ (.bool r1) ∧
  ((r1) = true →
  K (.bool true) H_) ∧
  ((r1) = false →
  CallF Try.prog 9 #[(.int .i64 next_), (.int .i64 most)] H_ fun u1 H_1 => ∃ r2 : Option Addr, ∃ r3 : Int, u1 = (.tuple #[(.pointer r2), (.int .i64 r3)]) ∧
  CallF Try.prog 10 #[(.int .i64 next_), (.int .i64 most)] H_1 fun u2 H_2 => ∃ r4 : Option Addr, ∃ r5 : Int, u2 = (.tuple #[(.pointer r4), (.int .i64 r5)]) ∧
  ((((!decide (r3 = r5)) || (!(r2.isNone == r4.isNone)))) = true →
  K (.bool false) H_2) ∧
  ((((!decide (r3 = r5)) || (!(r2.isNone == r4.isNone)))) = false →
  (((r2.isNone || r4.isNone)) = true →
  K (.bool true) H_2) ∧
  (((r2.isNone || r4.isNone)) = false →
  ∃ (Inv : Int → Heap → Prop) (mu : Int → Heap → Nat), Inv 0 H_2 ∧
  ∀ (i : Int), ∀ H_3 : Heap, Inv i H_3 → HoldCalls.l5 callsa callsn K r1 r2 r4 Inv mu i H_3))))

def HoldCalls.ann : Ann := (.seq .reg (.seq (.seq .reg (.cond (.seq .reg .no) .no)) (.seq (.seq .reg (.cond (.seq .reg .no) .no)) (.seq .reg (.seq .reg (.seq (.seq .reg (.cond (.seq .reg .no) .no)) (.seq (.seq .reg (.cond (.seq .reg .no) .no)) (.seq (.seq .reg (.blk (.loop [(11, .one (.int .i64))] (.seq (.seq .reg (.cond .no .no)) (.seq (.blk (.seq (.seq .reg (.blk (.seq .reg (.condJ [] (.seq .reg (.seq .reg (.seq .reg (.seq (.seq .reg (.blk (.loop [(17, .one (.int .i64))] (.seq (.seq .reg (.cond .no .no)) (.seq (.blk .reg) .reg))))) (.seq .reg (.cond (.seq .reg .no) .no)))))) (.seq .reg (.condJ [] (.seq .reg (.cond (.seq .reg .no) .no)) .no)))))) (.seq (.regJ [(138, .one (.bool))]) (.cond (.seq .reg .no) .no)))) .reg))))) (.seq .reg .no)))))))))

theorem HoldCalls.eq (next_ : Int) (most : Int) (callsa : Option Addr) (callsn : Nat) (callsc : Nat) (H : Heap) (K : Value → Heap → Prop) : vcFun X Try.f3 HoldCalls.ann [(.int .i64 next_), (.int .i64 most), (.slice callsa callsn callsc)] H K = HoldCalls.code next_ most callsa callsn callsc H K := by kernel_rfl

theorem HoldCalls.call {next_ : Int} {most : Int} {callsa : Option Addr} {callsn : Nat} {callsc : Nat} {H : Heap} {K : Value → Heap → Prop} (h : HoldCalls.code next_ most callsa callsn callsc H K) : CallF Try.prog 3 #[(.int .i64 next_), (.int .i64 most), (.slice callsa callsn callsc)] H K :=
  callF_of_eq X_P X_wide X_bodied Try.func3 (HoldCalls.eq next_ most callsa callsn callsc H K) h

def HoldOrder.r1 (Inv : Int → Int → Heap → Prop) (mu : Int → Int → Heap → Nat) (want : Int) (i : Int) (H_2 : Heap) (want1 : Int) (H_3 : Heap) : Prop :=
  Inv want1 (IntKind.i64.wrap (i + 1)) H_3 ∧ mu want1 (IntKind.i64.wrap (i + 1)) H_3 < mu want i H_2

def HoldOrder.l2 (most : Int) (K : Value → Heap → Prop) (Jn : Int → Heap → Prop) (want2 : Int) (ra1 : Option Addr) (rn1 : Nat) (Inv3 : Int → Heap → Prop) (mu3 : Int → Heap → Nat) (k2 : Int) (H_9 : Heap) : Prop :=
  (((decide (k2 < (rn1 : Int)))) = true →
  ((0 : Int) ≤ k2 ∧ k2 < (rn1 : Int)) ∧ ∃ b2 o2 : Nat, (ra1 = some ⟨b2, o2, none⟩) ∧
  ∃ v6 : Int, cellAt H_9 b2 (o2 + k2.toNat) = some (.int .i64 v6) ∧
  (((decide (v6 ≤ want2)) = false) → ((0 : Int) ≤ k2 ∧ k2 < (rn1 : Int))) ∧ ∃ b3 o3 : Nat, (((decide (v6 ≤ want2)) = false) → (ra1 = some ⟨b3, o3, none⟩)) ∧
  ∃ v7 : Int, (((decide (v6 ≤ want2)) = false) → cellAt H_9 b3 (o3 + k2.toNat) = some (.int .i64 v7)) ∧
  (((((decide (v6 ≤ want2)) || (decide ((IntKind.i64.wrap (want2 + most)) ≤ v7))) = false) ∧ (decide (0 < k2)) = true) → ((0 : Int) ≤ k2 ∧ k2 < (rn1 : Int))) ∧ ∃ b4 o4 : Nat, (((((decide (v6 ≤ want2)) || (decide ((IntKind.i64.wrap (want2 + most)) ≤ v7))) = false) ∧ (decide (0 < k2)) = true) → (ra1 = some ⟨b4, o4, none⟩)) ∧
  ∃ v8 : Int, (((((decide (v6 ≤ want2)) || (decide ((IntKind.i64.wrap (want2 + most)) ≤ v7))) = false) ∧ (decide (0 < k2)) = true) → cellAt H_9 b4 (o4 + k2.toNat) = some (.int .i64 v8)) ∧
  (((((decide (v6 ≤ want2)) || (decide ((IntKind.i64.wrap (want2 + most)) ≤ v7))) = false) ∧ (decide (0 < k2)) = true) → ((0 : Int) ≤ (IntKind.i64.wrap (k2 - 1)) ∧ (IntKind.i64.wrap (k2 - 1)) < (rn1 : Int))) ∧ ∃ b5 o5 : Nat, (((((decide (v6 ≤ want2)) || (decide ((IntKind.i64.wrap (want2 + most)) ≤ v7))) = false) ∧ (decide (0 < k2)) = true) → (ra1 = some ⟨b5, o5, none⟩)) ∧
  ∃ v9 : Int, (((((decide (v6 ≤ want2)) || (decide ((IntKind.i64.wrap (want2 + most)) ≤ v7))) = false) ∧ (decide (0 < k2)) = true) → cellAt H_9 b5 (o5 + (IntKind.i64.wrap (k2 - 1)).toNat) = some (.int .i64 v9)) ∧
  (((((decide (v6 ≤ want2)) || (decide ((IntKind.i64.wrap (want2 + most)) ≤ v7))) || ((decide (0 < k2)) && (decide (v8 ≤ v9))))) = true →
  K (.bool false) H_9) ∧
  (((((decide (v6 ≤ want2)) || (decide ((IntKind.i64.wrap (want2 + most)) ≤ v7))) || ((decide (0 < k2)) && (decide (v8 ≤ v9))))) = false →
  Inv3 (IntKind.i64.wrap (k2 + 1)) H_9 ∧ mu3 (IntKind.i64.wrap (k2 + 1)) H_9 < mu3 k2 H_9)) ∧
  (((decide (k2 < (rn1 : Int)))) = false →
  Jn want2 H_9)

def HoldOrder.l3 (most : Int) (K : Value → Heap → Prop) (r2 : Option Addr) (Jn : Int → Heap → Prop) (ra : Option Addr) (rn : Nat) (Inv2 : Int → Int → Heap → Prop) (mu2 : Int → Int → Heap → Nat) (want2 : Int) (k1 : Int) (H_7 : Heap) : Prop :=
  (((decide (k1 < (rn : Int)))) = true →
  ((0 : Int) ≤ k1 ∧ k1 < (rn : Int)) ∧ ∃ b1 o1 : Nat, (ra = some ⟨b1, o1, none⟩) ∧
  ∃ v5 : Int, cellAt H_7 b1 (o1 + k1.toNat) = some (.int .i64 v5) ∧
  (((!decide (v5 = want2))) = true →
  K (.bool false) H_7) ∧
  (((!decide (v5 = want2))) = false →
  Inv2 (IntKind.i64.wrap (want2 + 1)) (IntKind.i64.wrap (k1 + 1)) H_7 ∧ mu2 (IntKind.i64.wrap (want2 + 1)) (IntKind.i64.wrap (k1 + 1)) H_7 < mu2 want2 k1 H_7)) ∧
  (((decide (k1 < (rn : Int)))) = false →
  CallF Try.prog 18 #[(.pointer r2)] H_7 fun u4 H_8 => ∃ ra1 : Option Addr, ∃ rn1 : Nat, ∃ rc1 : Nat, u4 = (.slice ra1 rn1 rc1) ∧
  ∃ r5 : Int, CallQ Try.prog 17 #[(.pointer r2)] H_8 (.int .i64 r5) ∧
  ((((!decide (r5 = want2)) || (decide (most ≤ (rn1 : Int))))) = true →
  K (.bool false) H_8) ∧
  ((((!decide (r5 = want2)) || (decide (most ≤ (rn1 : Int))))) = false →
  ∃ (Inv3 : Int → Heap → Prop) (mu3 : Int → Heap → Nat), Inv3 0 H_8 ∧
  ∀ (k2 : Int), ∀ H_9 : Heap, Inv3 k2 H_9 → HoldOrder.l2 most K Jn want2 ra1 rn1 Inv3 mu3 k2 H_9))

def HoldOrder.l4 (most : Int) (K : Value → Heap → Prop) (r2 : Option Addr) (want : Int) (H_2 : Heap) (Jn : Int → Heap → Prop) (Inv1 : (Option Addr) → Nat → Nat → Int → Heap → Prop) (mu1 : (Option Addr) → Nat → Nat → Int → Heap → Nat) (itemsa : Option Addr) (itemsn : Nat) (itemsc : Nat) (k : Int) (H_4 : Heap) : Prop :=
  ∃ va : Option Addr, ∃ vn : Nat, ∃ vc : Nat, cellAt H_4 H_2.size 2 = some (.slice va vn vc) ∧
  (((decide (k < (vn : Int)))) = true →
  ∃ v3 : Int, cellAt H_4 H_2.size 1 = some (.int .i64 v3) ∧
  RunW Try.prog (Builtin.append_ #[32, 32] 32 #[(.slice itemsa itemsn itemsc), (.slice (some ⟨H_4.size, 0, none⟩) 1 1)]) (H_4.push (.cells #[(.int .i64 (IntKind.i64.wrap (v3 + k)))] 2)) fun u2 H_5 =>
  ∃ sa : Option Addr, ∃ sn : Nat, ∃ sc : Nat, u2 = (.slice sa sn sc) ∧
  Inv1 sa sn sc (IntKind.i64.wrap (k + 1)) H_5 ∧ mu1 sa sn sc (IntKind.i64.wrap (k + 1)) H_5 < mu1 itemsa itemsn itemsc k H_4) ∧
  (((decide (k < (vn : Int)))) = false →
  ∃ v4 : Int, cellAt H_4 H_2.size 1 = some (.int .i64 v4) ∧
  CallF Try.prog 12 #[(.pointer r2), (.int .i64 v4), (.slice itemsa itemsn itemsc)] H_4 fun u3 H_6 => ∃ ra : Option Addr, ∃ rn : Nat, ∃ rc : Nat, ∃ r4 : Int, u3 = (.tuple #[(.slice ra rn rc), (.int .i64 r4)]) ∧
  ((((decide (r4 < 0)) || (decide ((itemsn : Int) < r4)))) = true →
  K (.bool false) H_6) ∧
  ((((decide (r4 < 0)) || (decide ((itemsn : Int) < r4)))) = false →
  ∃ (Inv2 : Int → Int → Heap → Prop) (mu2 : Int → Int → Heap → Nat), Inv2 want 0 H_6 ∧
  ∀ (want2 : Int) (k1 : Int), ∀ H_7 : Heap, Inv2 want2 k1 H_7 → HoldOrder.l3 most K r2 Jn ra rn Inv2 mu2 want2 k1 H_7))

def HoldOrder.l5 (most : Int) (callsa : Option Addr) (callsn : Nat) (K : Value → Heap → Prop) (r1 : Bool) (r2 : Option Addr) (Inv : Int → Int → Heap → Prop) (mu : Int → Int → Heap → Nat) (want : Int) (i : Int) (H_2 : Heap) : Prop :=
  (((decide (i < (callsn : Int)))) = true →
  ∀ Jn : Int → Heap → Prop, (∀ (want1 : Int), ∀ H_3 : Heap, HoldOrder.r1 Inv mu want i H_2 want1 H_3 → Jn want1 H_3) →
  ((0 : Int) ≤ i ∧ i < (callsn : Int)) ∧ ∃ b o : Nat, (callsa = some ⟨b, o, none⟩) ∧
  ∃ c0 : Int, ∃ c1 : Int, ∃ c2a : Option Addr, ∃ c2n : Nat, ∃ c2c : Nat, cellsAre H_2 b (o + i.toNat * 3) [(.int .i64 c0), (.int .i64 c1), (.slice c2a c2n c2c)] ∧
  canSet (H_2.push (.cells #[(.int .i64 0), (.int .i64 0), (.slice none 0 0)] 34)) H_2.size 0 [(.int .i64 c0), (.int .i64 c1), (.slice c2a c2n c2c)] ∧
  ∃ v : Int, cellAt (setAll (H_2.push (.cells #[(.int .i64 0), (.int .i64 0), (.slice none 0 0)] 34)) H_2.size 0 [(.int .i64 c0), (.int .i64 c1), (.slice c2a c2n c2c)]) H_2.size 0 = some (.int .i64 v) ∧
  ∃ v1 : Int, (((!decide (v = 0)) = false) → cellAt (setAll (H_2.push (.cells #[(.int .i64 0), (.int .i64 0), (.slice none 0 0)] 34)) H_2.size 0 [(.int .i64 c0), (.int .i64 c1), (.slice c2a c2n c2c)]) H_2.size 1 = some (.int .i64 v1)) ∧
  ∃ v2 : Int, ((((!decide (v = 0)) || (decide (v1 < 0))) = false) → cellAt (setAll (H_2.push (.cells #[(.int .i64 0), (.int .i64 0), (.slice none 0 0)] 34)) H_2.size 0 [(.int .i64 c0), (.int .i64 c1), (.slice c2a c2n c2c)]) H_2.size 1 = some (.int .i64 v2)) ∧
  (((((!decide (v = 0)) || (decide (v1 < 0))) || (decide (2199023255552 < v2)))) = true →
  Jn want (setAll (H_2.push (.cells #[(.int .i64 0), (.int .i64 0), (.slice none 0 0)] 34)) H_2.size 0 [(.int .i64 c0), (.int .i64 c1), (.slice c2a c2n c2c)])) ∧
  (((((!decide (v = 0)) || (decide (v1 < 0))) || (decide (2199023255552 < v2)))) = false →
  ∃ (Inv1 : (Option Addr) → Nat → Nat → Int → Heap → Prop) (mu1 : (Option Addr) → Nat → Nat → Int → Heap → Nat), Inv1 (some ⟨(setAll (H_2.push (.cells #[(.int .i64 0), (.int .i64 0), (.slice none 0 0)] 34)) H_2.size 0 [(.int .i64 c0), (.int .i64 c1), (.slice c2a c2n c2c)]).size, 0, none⟩) 0 0 0 ((setAll (H_2.push (.cells #[(.int .i64 0), (.int .i64 0), (.slice none 0 0)] 34)) H_2.size 0 [(.int .i64 c0), (.int .i64 c1), (.slice c2a c2n c2c)]).push (.cells #[] 2)) ∧
  ∀ (itemsa : Option Addr) (itemsn : Nat) (itemsc : Nat) (k : Int), ∀ H_4 : Heap, Inv1 itemsa itemsn itemsc k H_4 → HoldOrder.l4 most K r2 want H_2 Jn Inv1 mu1 itemsa itemsn itemsc k H_4)) ∧
  (((decide (i < (callsn : Int)))) = false →
  K (.bool true) H_2)

def HoldOrder.code (next_ : Int) (most : Int) (callsa : Option Addr) (callsn : Nat) (callsc : Nat) (H : Heap) (K : Value → Heap → Prop) : Prop :=
  CallF Try.prog 7 #[] H fun u H_ => ∃ r : Bool, u = (.bool r) ∧
  (((!r)) = true →
  K (.bool false) H_) ∧
  (((!r)) = false →
  ∃ r1 : Bool, CallQ Try.prog 8 #[(.slice callsa callsn callsc)] H_ (.bool r1) ∧
  ((r1) = true →
  K (.bool true) H_) ∧
  ((r1) = false →
  CallF Try.prog 9 #[(.int .i64 next_), (.int .i64 most)] H_ fun u1 H_1 => ∃ r2 : Option Addr, ∃ r3 : Int, u1 = (.tuple #[(.pointer r2), (.int .i64 r3)]) ∧
  ((((!decide (r3 = 0)) || r2.isNone)) = true →
  K (.bool r2.isNone) H_1) ∧
  ((((!decide (r3 = 0)) || r2.isNone)) = false →
  ∃ (Inv : Int → Int → Heap → Prop) (mu : Int → Int → Heap → Nat), Inv next_ 0 H_1 ∧
  ∀ (want : Int) (i : Int), ∀ H_2 : Heap, Inv want i H_2 → HoldOrder.l5 most callsa callsn K r1 r2 Inv mu want i H_2)))

def HoldOrder.ann : Ann := (.seq .reg (.seq (.seq .reg (.cond (.seq .reg .no) .no)) (.seq (.seq .reg (.cond (.seq .reg .no) .no)) (.seq .reg (.seq (.seq .reg (.cond (.seq .reg .no) .no)) (.seq .reg (.seq (.seq .reg (.blk (.loop [(9, .one (.int .i64)), (10, .one (.int .i64))] (.seq (.seq .reg (.cond .no .no)) (.seq (.blkJ [(9, .one (.int .i64))] (.seq .reg (.seq (.seq .reg (.cond .no .no)) (.seq .reg (.seq (.seq .reg (.blk (.loop [(12, .one (.slice)), (13, .one (.int .i64))] (.seq (.seq .reg (.cond .no .no)) (.seq (.blk .reg) .reg))))) (.seq .reg (.seq (.seq .reg (.cond (.seq .reg .no) .no)) (.seq (.seq .reg (.blk (.loop [(9, .one (.int .i64)), (16, .one (.int .i64))] (.seq (.seq .reg (.cond .no .no)) (.seq (.blk (.seq (.seq .reg (.cond (.seq .reg .no) .no)) .reg)) .reg))))) (.seq .reg (.seq (.seq .reg (.cond (.seq .reg .no) .no)) (.seq .reg (.blk (.loop [(18, .one (.int .i64))] (.seq (.seq .reg (.cond .no .no)) (.seq (.blk (.seq .reg (.cond (.seq .reg .no) .no))) .reg))))))))))))))) .reg))))) (.seq .reg .no))))))))

theorem HoldOrder.eq (next_ : Int) (most : Int) (callsa : Option Addr) (callsn : Nat) (callsc : Nat) (H : Heap) (K : Value → Heap → Prop) : vcFun X Try.f4 HoldOrder.ann [(.int .i64 next_), (.int .i64 most), (.slice callsa callsn callsc)] H K = HoldOrder.code next_ most callsa callsn callsc H K := by kernel_rfl

theorem HoldOrder.call {next_ : Int} {most : Int} {callsa : Option Addr} {callsn : Nat} {callsc : Nat} {H : Heap} {K : Value → Heap → Prop} (h : HoldOrder.code next_ most callsa callsn callsc H K) : CallF Try.prog 4 #[(.int .i64 next_), (.int .i64 most), (.slice callsa callsn callsc)] H K :=
  callF_of_eq X_P X_wide X_bodied Try.func4 (HoldOrder.eq next_ most callsa callsn callsc H K) h

def HoldAll.r1 (K : Value → Heap → Prop) (Inv2 : (Option Addr) → Nat → Nat → Int → Heap → Prop) (mu2 : (Option Addr) → Nat → Nat → Int → Heap → Nat) (gota : Option Addr) (gotn : Nat) (gotc : Nat) (i2 : Int) (H_5 : Heap) (sa1 : Option Addr) (sn1 : Nat) (sc1 : Nat) (refused : Int) (H_8 : Heap) : Prop :=
  (((!decide (refused = 0))) = true →
  K (.bool false) H_8) ∧
  (((!decide (refused = 0))) = false →
  Inv2 sa1 sn1 sc1 (IntKind.i64.wrap (i2 + 1)) H_8 ∧ mu2 sa1 sn1 sc1 (IntKind.i64.wrap (i2 + 1)) H_8 < mu2 gota gotn gotc i2 H_5)

def HoldAll.r2 (K : Value → Heap → Prop) (t6 : Bool) (H_11 : Heap) : Prop :=
  K (.bool t6) H_11

def HoldAll.l3 (next_ : Int) (ordern : Nat) (K : Value → Heap → Prop) (r1 : Option Addr) (r2 : Int) (gota : Option Addr) (gotn : Nat) (Inv3 : Int → Heap → Prop) (mu3 : Int → Heap → Nat) (i3 : Int) (H_10 : Heap) : Prop :=
  (((decide (i3 < (ordern : Int)))) = true →
  (((decide ((gotn : Int) ≤ i3)) = false) → ((0 : Int) ≤ i3 ∧ i3 < (gotn : Int))) ∧ ∃ b8 o8 : Nat, (((decide ((gotn : Int) ≤ i3)) = false) → (gota = some ⟨b8, o8, none⟩)) ∧
  ∃ v6 : Int, (((decide ((gotn : Int) ≤ i3)) = false) → cellAt H_10 b8 (o8 + i3.toNat) = some (.int .i64 v6)) ∧
  ((((decide ((gotn : Int) ≤ i3)) || (!decide (v6 = (IntKind.i64.wrap (next_ + i3)))))) = true →
  K (.bool false) H_10) ∧
  ((((decide ((gotn : Int) ≤ i3)) || (!decide (v6 = (IntKind.i64.wrap (next_ + i3)))))) = false →
  Inv3 (IntKind.i64.wrap (i3 + 1)) H_10 ∧ mu3 (IntKind.i64.wrap (i3 + 1)) H_10 < mu3 i3 H_10)) ∧
  (((decide (i3 < (ordern : Int)))) = false →
  ∀ Jn1 : Bool → Heap → Prop, (∀ (t6 : Bool), ∀ H_11 : Heap, HoldAll.r2 K t6 H_11 → Jn1 t6 H_11) →
  ∃ r5 : Int, (((decide ((gotn : Int) = (ordern : Int))) = true) → CallQ Try.prog 17 #[(.pointer r1)] H_10 (.int .i64 r5)) ∧
  ((((decide ((gotn : Int) = (ordern : Int))) && (decide (r5 = (IntKind.i64.wrap (next_ + (ordern : Int)))))) = true) →
  CallF Try.prog 18 #[(.pointer r1)] H_10 fun u6 H_12 => ∃ ra2 : Option Addr, ∃ rn2 : Nat, ∃ rc2 : Nat, u6 = (.slice ra2 rn2 rc2) ∧
  Jn1 (decide ((rn2 : Int) = 0)) H_12) ∧
  (¬ (((decide ((gotn : Int) = (ordern : Int))) && (decide (r5 = (IntKind.i64.wrap (next_ + (ordern : Int)))))) = true) →
  Jn1 false H_10))

def HoldAll.l4 (next_ : Int) (ordern : Nat) (twice : Bool) (K : Value → Heap → Prop) (r1 : Option Addr) (r2 : Int) (alla : Option Addr) (alln : Nat) (Inv2 : (Option Addr) → Nat → Nat → Int → Heap → Prop) (mu2 : (Option Addr) → Nat → Nat → Int → Heap → Nat) (gota : Option Addr) (gotn : Nat) (gotc : Nat) (i2 : Int) (H_5 : Heap) : Prop :=
  (((decide (i2 < (alln : Int)))) = true →
  ((0 : Int) ≤ i2 ∧ i2 < (alln : Int)) ∧ ∃ b5 o5 : Nat, (alla = some ⟨b5, o5, none⟩) ∧
  ∃ v3 : Int, cellAt H_5 b5 (o5 + i2.toNat) = some (.int .i64 v3) ∧
  ((0 : Int) ≤ i2 ∧ i2 < (alln : Int)) ∧ ∃ b6 o6 : Nat, (alla = some ⟨b6, o6, none⟩) ∧
  ∃ v4 : Int, cellAt H_5 b6 (o6 + i2.toNat) = some (.int .i64 v4) ∧
  cellAt (H_5.push (.cells #[(.int .i64 (IntKind.i64.wrap (next_ + v4)))] 2)) b5 (o5 + i2.toNat) = some (.int .i64 v3) ∧
  CallF Try.prog 12 #[(.pointer r1), (.int .i64 (IntKind.i64.wrap (next_ + v3))), (.slice (some ⟨H_5.size, 0, none⟩) 1 1)] (H_5.push (.cells #[(.int .i64 (IntKind.i64.wrap (next_ + v4)))] 2)) fun u3 H_6 => ∃ ra : Option Addr, ∃ rn : Nat, ∃ rc : Nat, ∃ r3 : Int, u3 = (.tuple #[(.slice ra rn rc), (.int .i64 r3)]) ∧
  RunW Try.prog (Builtin.append_ #[32, 32] 32 #[(.slice gota gotn gotc), (.slice ra rn rc)]) H_6 fun u4 H_7 =>
  ∃ sa1 : Option Addr, ∃ sn1 : Nat, ∃ sc1 : Nat, u4 = (.slice sa1 sn1 sc1) ∧
  ∀ Jn : Int → Heap → Prop, (∀ (refused : Int), ∀ H_8 : Heap, HoldAll.r1 K Inv2 mu2 gota gotn gotc i2 H_5 sa1 sn1 sc1 refused H_8 → Jn refused H_8) →
  ((twice) = true →
  ((0 : Int) ≤ i2 ∧ i2 < (alln : Int)) ∧ ∃ b7 o7 : Nat, (alla = some ⟨b7, o7, none⟩) ∧
  ∃ v5 : Int, cellAt H_7 b7 (o7 + i2.toNat) = some (.int .i64 v5) ∧
  CallF Try.prog 12 #[(.pointer r1), (.int .i64 (IntKind.i64.wrap (next_ + v5))), (.slice (some ⟨H_7.size, 0, none⟩) 1 1)] (H_7.push (.cells #[(.int .i64 (-1))] 2)) fun u5 H_9 => ∃ ra1 : Option Addr, ∃ rn1 : Nat, ∃ rc1 : Nat, ∃ r4 : Int, u5 = (.tuple #[(.slice ra1 rn1 rc1), (.int .i64 r4)]) ∧
  Jn (IntKind.i64.wrap (r3 + (rn1 : Int))) H_9) ∧
  ((twice) = false →
  Jn r3 H_7)) ∧
  (((decide (i2 < (alln : Int)))) = false →
  ∃ (Inv3 : Int → Heap → Prop) (mu3 : Int → Heap → Nat), Inv3 0 H_5 ∧
  ∀ (i3 : Int), ∀ H_10 : Heap, Inv3 i3 H_10 → HoldAll.l3 next_ ordern K r1 r2 gota gotn Inv3 mu3 i3 H_10)

def HoldAll.l5 (next_ : Int) (ordera : Option Addr) (ordern : Nat) (twice : Bool) (K : Value → Heap → Prop) (r1 : Option Addr) (r2 : Int) (alla : Option Addr) (alln : Nat) (Inv1 : Int → Heap → Prop) (mu1 : Int → Heap → Nat) (i1 : Int) (H_4 : Heap) : Prop :=
  (((decide (i1 < (ordern : Int)))) = true →
  ((0 : Int) ≤ i1 ∧ i1 < (ordern : Int)) ∧ ∃ b o : Nat, (ordera = some ⟨b, o, none⟩) ∧
  ∃ v : Int, cellAt H_4 b (o + i1.toNat) = some (.int .u8 v) ∧
  ((IntKind.i64.wrap ((ordern : Int) - i1)) ≠ 0) ∧
  ((0 : Int) ≤ (IntKind.i64.wrap (i1 + (Int.tmod (IntKind.i64.wrap v) (IntKind.i64.wrap ((ordern : Int) - i1))))) ∧ (IntKind.i64.wrap (i1 + (Int.tmod (IntKind.i64.wrap v) (IntKind.i64.wrap ((ordern : Int) - i1))))) < (alln : Int)) ∧ ∃ b1 o1 : Nat, (alla = some ⟨b1, o1, none⟩) ∧
  ∃ v1 : Int, cellAt H_4 b1 (o1 + (IntKind.i64.wrap (i1 + (Int.tmod (IntKind.i64.wrap v) (IntKind.i64.wrap ((ordern : Int) - i1))))).toNat) = some (.int .i64 v1) ∧
  ((0 : Int) ≤ i1 ∧ i1 < (alln : Int)) ∧ ∃ b2 o2 : Nat, (alla = some ⟨b2, o2, none⟩) ∧
  ∃ v2 : Int, cellAt H_4 b2 (o2 + i1.toNat) = some (.int .i64 v2) ∧
  ((0 : Int) ≤ i1 ∧ i1 < (alln : Int)) ∧ ∃ b3 o3 : Nat, (alla = some ⟨b3, o3, none⟩) ∧
  canSet H_4 b3 (o3 + i1.toNat) [(.int .i64 v1)] ∧
  ((0 : Int) ≤ (IntKind.i64.wrap (i1 + (Int.tmod (IntKind.i64.wrap v) (IntKind.i64.wrap ((ordern : Int) - i1))))) ∧ (IntKind.i64.wrap (i1 + (Int.tmod (IntKind.i64.wrap v) (IntKind.i64.wrap ((ordern : Int) - i1))))) < (alln : Int)) ∧ ∃ b4 o4 : Nat, (alla = some ⟨b4, o4, none⟩) ∧
  canSet (setAll H_4 b3 (o3 + i1.toNat) [(.int .i64 v1)]) b4 (o4 + (IntKind.i64.wrap (i1 + (Int.tmod (IntKind.i64.wrap v) (IntKind.i64.wrap ((ordern : Int) - i1))))).toNat) [(.int .i64 v2)] ∧
  Inv1 (IntKind.i64.wrap (i1 + 1)) (setAll (setAll H_4 b3 (o3 + i1.toNat) [(.int .i64 v1)]) b4 (o4 + (IntKind.i64.wrap (i1 + (Int.tmod (IntKind.i64.wrap v) (IntKind.i64.wrap ((ordern : Int) - i1))))).toNat) [(.int .i64 v2)]) ∧ mu1 (IntKind.i64.wrap (i1 + 1)) (setAll (setAll H_4 b3 (o3 + i1.toNat) [(.int .i64 v1)]) b4 (o4 + (IntKind.i64.wrap (i1 + (Int.tmod (IntKind.i64.wrap v) (IntKind.i64.wrap ((ordern : Int) - i1))))).toNat) [(.int .i64 v2)]) < mu1 i1 H_4) ∧
  (((decide (i1 < (ordern : Int)))) = false →
  ∃ (Inv2 : (Option Addr) → Nat → Nat → Int → Heap → Prop) (mu2 : (Option Addr) → Nat → Nat → Int → Heap → Nat), Inv2 (some ⟨H_4.size, 0, none⟩) 0 0 0 (H_4.push (.cells #[] 2)) ∧
  ∀ (gota : Option Addr) (gotn : Nat) (gotc : Nat) (i2 : Int), ∀ H_5 : Heap, Inv2 gota gotn gotc i2 H_5 → HoldAll.l4 next_ ordern twice K r1 r2 alla alln Inv2 mu2 gota gotn gotc i2 H_5)

def HoldAll.l6 (next_ : Int) (ordera : Option Addr) (ordern : Nat) (twice : Bool) (K : Value → Heap → Prop) (r1 : Option Addr) (r2 : Int) (Inv : (Option Addr) → Nat → Nat → Int → Heap → Prop) (mu : (Option Addr) → Nat → Nat → Int → Heap → Nat) (alla : Option Addr) (alln : Nat) (allc : Nat) (i : Int) (H_2 : Heap) : Prop :=
  (((decide (i < (ordern : Int)))) = true →
  RunW Try.prog (Builtin.append_ #[32, 32] 32 #[(.slice alla alln allc), (.slice (some ⟨H_2.size, 0, none⟩) 1 1)]) (H_2.push (.cells #[(.int .i64 i)] 2)) fun u2 H_3 =>
  ∃ sa : Option Addr, ∃ sn : Nat, ∃ sc : Nat, u2 = (.slice sa sn sc) ∧
  Inv sa sn sc (IntKind.i64.wrap (i + 1)) H_3 ∧ mu sa sn sc (IntKind.i64.wrap (i + 1)) H_3 < mu alla alln allc i H_2) ∧
  (((decide (i < (ordern : Int)))) = false →
  ∃ (Inv1 : Int → Heap → Prop) (mu1 : Int → Heap → Nat), Inv1 0 H_2 ∧
  ∀ (i1 : Int), ∀ H_4 : Heap, Inv1 i1 H_4 → HoldAll.l5 next_ ordera ordern twice K r1 r2 alla alln Inv1 mu1 i1 H_4)

def HoldAll.code (next_ : Int) (ordera : Option Addr) (ordern : Nat) (orderc : Nat) (twice : Bool) (H : Heap) (K : Value → Heap → Prop) : Prop :=
  CallF Try.prog 7 #[] H fun u H_ => ∃ r : Bool, u = (.bool r) ∧
  (((!r)) = true →
  K (.bool false) H_) ∧
  (((!r)) = false →
  (((((decide (100 < (ordern : Int))) || (decide (next_ < 0))) || (decide (1099511627776 < next_)))) = true →
  K (.bool true) H_) ∧
  (((((decide (100 < (ordern : Int))) || (decide (next_ < 0))) || (decide (1099511627776 < next_)))) = false →
  CallF Try.prog 9 #[(.int .i64 next_), (.int .i64 256)] H_ fun u1 H_1 => ∃ r1 : Option Addr, ∃ r2 : Int, u1 = (.tuple #[(.pointer r1), (.int .i64 r2)]) ∧
  ((((!decide (r2 = 0)) || r1.isNone)) = true →
  K (.bool false) H_1) ∧
  ((((!decide (r2 = 0)) || r1.isNone)) = false →
  ∃ (Inv : (Option Addr) → Nat → Nat → Int → Heap → Prop) (mu : (Option Addr) → Nat → Nat → Int → Heap → Nat), Inv (some ⟨H_1.size, 0, none⟩) 0 0 0 (H_1.push (.cells #[] 2)) ∧
  ∀ (alla : Option Addr) (alln : Nat) (allc : Nat) (i : Int), ∀ H_2 : Heap, Inv alla alln allc i H_2 → HoldAll.l6 next_ ordera ordern twice K r1 r2 Inv mu alla alln allc i H_2)))

def HoldAll.ann : Ann := (.seq .reg (.seq (.seq .reg (.cond (.seq .reg .no) .no)) (.seq (.seq .reg (.cond (.seq .reg .no) .no)) (.seq .reg (.seq (.seq .reg (.cond (.seq .reg .no) .no)) (.seq .reg (.seq .reg (.seq (.seq .reg (.blk (.loop [(10, .one (.slice)), (11, .one (.int .i64))] (.seq (.seq .reg (.cond .no .no)) (.seq (.blk .reg) .reg))))) (.seq (.seq .reg (.blk (.loop [(12, .one (.int .i64))] (.seq (.seq .reg (.cond .no .no)) (.seq (.blk (.seq .reg .reg)) .reg))))) (.seq .reg (.seq (.seq .reg (.blk (.loop [(14, .one (.slice)), (15, .one (.int .i64))] (.seq (.seq .reg (.cond .no .no)) (.seq (.blk (.seq .reg (.seq .reg (.seq (.seq .reg (.condJ [(17, .one (.int .i64))] (.seq .reg .reg) .no)) (.seq .reg (.cond (.seq .reg .no) .no)))))) .reg))))) (.seq (.seq .reg (.blk (.loop [(20, .one (.int .i64))] (.seq (.seq .reg (.cond .no .no)) (.seq (.blk (.seq .reg (.cond (.seq .reg .no) .no))) .reg))))) (.seq (.regJ [(6, .one (.bool))]) .no)))))))))))))

theorem HoldAll.eq (next_ : Int) (ordera : Option Addr) (ordern : Nat) (orderc : Nat) (twice : Bool) (H : Heap) (K : Value → Heap → Prop) : vcFun X Try.f5 HoldAll.ann [(.int .i64 next_), (.slice ordera ordern orderc), (.bool twice)] H K = HoldAll.code next_ ordera ordern orderc twice H K := by kernel_rfl

theorem HoldAll.call {next_ : Int} {ordera : Option Addr} {ordern : Nat} {orderc : Nat} {twice : Bool} {H : Heap} {K : Value → Heap → Prop} (h : HoldAll.code next_ ordera ordern orderc twice H K) : CallF Try.prog 5 #[(.int .i64 next_), (.slice ordera ordern orderc), (.bool twice)] H K :=
  callF_of_eq X_P X_wide X_bodied Try.func5 (HoldAll.eq next_ ordera ordern orderc twice H K) h

def HoldAgain.r1 (Inv : Int → Heap → Prop) (mu : Int → Heap → Nat) (i : Int) (H_2 : Heap) (H_3 : Heap) : Prop :=
  Inv (IntKind.i64.wrap (i + 1)) H_3 ∧ mu (IntKind.i64.wrap (i + 1)) H_3 < mu i H_2

def HoldAgain.r2 (K : Value → Heap → Prop) (r2 : Option Addr) (r5 : Int) (t121 : Bool) (H_10 : Heap) : Prop :=
  ((t121) = true →
  K (.bool false) H_10) ∧
  ((t121) = false →
  (((decide (r5 = 0))) = true →
  K (.bool true) H_10) ∧
  (((decide (r5 = 0))) = false →
  CallF Try.prog 12 #[(.pointer r2), (.int .i64 (IntKind.i64.wrap (r5 - 1))), (.slice (some ⟨H_10.size, 0, none⟩) 1 1)] (H_10.push (.cells #[(.int .i64 7)] 2)) fun u6 H_11 => ∃ ra4 : Option Addr, ∃ rn4 : Nat, ∃ rc4 : Nat, ∃ r7 : Int, u6 = (.tuple #[(.slice ra4 rn4 rc4), (.int .i64 r7)]) ∧
  ∃ r8 : Int, ((((decide ((rn4 : Int) = 0)) && (decide (r7 = 0))) = true) → CallQ Try.prog 17 #[(.pointer r2)] H_11 (.int .i64 r8)) ∧
  K (.bool (((decide ((rn4 : Int) = 0)) && (decide (r7 = 0))) && (decide (r8 = r5)))) H_11))

def HoldAgain.l3 (K : Value → Heap → Prop) (r2 : Option Addr) (ra1 : Option Addr) (rn1 : Nat) (rc1 : Nat) (r5 : Int) (ra2 : Option Addr) (rn2 : Nat) (rc2 : Nat) (Inv1 : Int → Heap → Prop) (mu1 : Int → Heap → Nat) (i1 : Int) (H_8 : Heap) : Prop :=
  (((decide (i1 < (rn1 : Int)))) = true →
  ((0 : Int) ≤ i1 ∧ i1 < (rn1 : Int)) ∧ ∃ b3 o3 : Nat, (ra1 = some ⟨b3, o3, none⟩) ∧
  ∃ v2 : Int, cellAt H_8 b3 (o3 + i1.toNat) = some (.int .i64 v2) ∧
  ((0 : Int) ≤ i1 ∧ i1 < (rn2 : Int)) ∧ ∃ b4 o4 : Nat, (ra2 = some ⟨b4, o4, none⟩) ∧
  ∃ v3 : Int, cellAt H_8 b4 (o4 + i1.toNat) = some (.int .i64 v3) ∧
  cellAt (H_8.push (.cells #[(.int .i64 v3)] 2)) b3 (o3 + i1.toNat) = some (.int .i64 v2) ∧
  CallF Try.prog 12 #[(.pointer r2), (.int .i64 v2), (.slice (some ⟨H_8.size, 0, none⟩) 1 1)] (H_8.push (.cells #[(.int .i64 v3)] 2)) fun u5 H_9 => ∃ ra3 : Option Addr, ∃ rn3 : Nat, ∃ rc3 : Nat, ∃ r6 : Int, u5 = (.tuple #[(.slice ra3 rn3 rc3), (.int .i64 r6)]) ∧
  ((((!decide ((rn3 : Int) = 0)) || (!decide (r6 = 0)))) = true →
  K (.bool false) H_9) ∧
  ((((!decide ((rn3 : Int) = 0)) || (!decide (r6 = 0)))) = false →
  Inv1 (IntKind.i64.wrap (i1 + 1)) H_9 ∧ mu1 (IntKind.i64.wrap (i1 + 1)) H_9 < mu1 i1 H_8)) ∧
  (((decide (i1 < (rn1 : Int)))) = false →
  ∀ Jn2 : Bool → Heap → Prop, (∀ (t121 : Bool), ∀ H_10 : Heap, HoldAgain.r2 K r2 r5 t121 H_10 → Jn2 t121 H_10) →
  CallF Try.prog 18 #[(.pointer r2)] H_8 fun u7 H_12 => ∃ ra5 : Option Addr, ∃ rn5 : Nat, ∃ rc5 : Nat, u7 = (.slice ra5 rn5 rc5) ∧
  ∃ r9 : Bool, CallQ Try.prog 14 #[(.slice ra5 rn5 rc5), (.slice ra1 rn1 rc1)] H_12 (.bool r9) ∧
  (((!r9) = false) →
  CallF Try.prog 15 #[(.pointer r2)] H_12 fun u8 H_13 => ∃ ra6 : Option Addr, ∃ rn6 : Nat, ∃ rc6 : Nat, u8 = (.slice ra6 rn6 rc6) ∧
  ∃ r10 : Bool, CallQ Try.prog 14 #[(.slice ra6 rn6 rc6), (.slice ra2 rn2 rc2)] H_13 (.bool r10) ∧
  Jn2 (!r10) H_13) ∧
  (¬ ((!r9) = false) →
  Jn2 true H_12))

def HoldAgain.r4 (K : Value → Heap → Prop) (r2 : Option Addr) (ra1 : Option Addr) (rn1 : Nat) (rc1 : Nat) (r5 : Int) (ra2 : Option Addr) (rn2 : Nat) (rc2 : Nat) (t82 : Bool) (H_7 : Heap) : Prop :=
  ((t82) = true →
  K (.bool false) H_7) ∧
  ((t82) = false →
  ∃ (Inv1 : Int → Heap → Prop) (mu1 : Int → Heap → Nat), Inv1 0 H_7 ∧
  ∀ (i1 : Int), ∀ H_8 : Heap, Inv1 i1 H_8 → HoldAgain.l3 K r2 ra1 rn1 rc1 r5 ra2 rn2 rc2 Inv1 mu1 i1 H_8)

def HoldAgain.l5 (callsa : Option Addr) (callsn : Nat) (K : Value → Heap → Prop) (r1 : Bool) (r2 : Option Addr) (Inv : Int → Heap → Prop) (mu : Int → Heap → Nat) (i : Int) (H_2 : Heap) : Prop :=
  (((decide (i < (callsn : Int)))) = true →
  ((0 : Int) ≤ i ∧ i < (callsn : Int)) ∧ ∃ b o : Nat, (callsa = some ⟨b, o, none⟩) ∧
  ∃ v : Int, cellAt H_2 b (o + i.toNat * 3) = some (.int .i64 v) ∧
  ∀ Jn : Heap → Prop, (∀ H_3 : Heap, HoldAgain.r1 Inv mu i H_2 H_3 → Jn H_3) →
  (((decide (v = 0))) = true →
  ((0 : Int) ≤ i ∧ i < (callsn : Int)) ∧ ∃ b1 o1 : Nat, (callsa = some ⟨b1, o1, none⟩) ∧
  ∃ v1 : Int, cellAt H_2 b1 (o1 + i.toNat * 3 + 1) = some (.int .i64 v1) ∧
  ((0 : Int) ≤ i ∧ i < (callsn : Int)) ∧ ∃ b2 o2 : Nat, (callsa = some ⟨b2, o2, none⟩) ∧
  ∃ va : Option Addr, ∃ vn : Nat, ∃ vc : Nat, cellAt H_2 b2 (o2 + i.toNat * 3 + 2) = some (.slice va vn vc) ∧
  CallF Try.prog 12 #[(.pointer r2), (.int .i64 v1), (.slice va vn vc)] H_2 fun u2 H_4 => ∃ ra : Option Addr, ∃ rn : Nat, ∃ rc : Nat, ∃ r4 : Int, u2 = (.tuple #[(.slice ra rn rc), (.int .i64 r4)]) ∧
  Jn H_4) ∧
  (((decide (v = 0))) = false →
  Jn H_2)) ∧
  (((decide (i < (callsn : Int)))) = false →
  CallF Try.prog 18 #[(.pointer r2)] H_2 fun u3 H_5 => ∃ ra1 : Option Addr, ∃ rn1 : Nat, ∃ rc1 : Nat, u3 = (.slice ra1 rn1 rc1) ∧
  ∃ r5 : Int, CallQ Try.prog 17 #[(.pointer r2)] H_5 (.int .i64 r5) ∧
  CallF Try.prog 15 #[(.pointer r2)] H_5 fun u4 H_6 => ∃ ra2 : Option Addr, ∃ rn2 : Nat, ∃ rc2 : Nat, u4 = (.slice ra2 rn2 rc2) ∧
  ∀ Jn1 : Bool → Heap → Prop, (∀ (t82 : Bool), ∀ H_7 : Heap, HoldAgain.r4 K r2 ra1 rn1 rc1 r5 ra2 rn2 rc2 t82 H_7 → Jn1 t82 H_7) →
  (((!decide ((rn2 : Int) = (rn1 : Int))) = false) →
  CallF Try.prog 18 #[(.pointer r2)] H_6 fun u9 H_14 => ∃ ra7 : Option Addr, ∃ rn7 : Nat, ∃ rc7 : Nat, u9 = (.slice ra7 rn7 rc7) ∧
  ∃ r11 : Int, (((!decide ((rn7 : Int) = 0)) = false) → CallQ Try.prog 17 #[(.pointer r2)] H_14 (.int .i64 r11)) ∧
  Jn1 ((!decide ((rn7 : Int) = 0)) || (!decide (r11 = r5))) H_14) ∧
  (¬ ((!decide ((rn2 : Int) = (rn1 : Int))) = false) →
  ∃ r12 : Int, ((true = false) → CallQ Try.prog 17 #[(.pointer r2)] H_6 (.int .i64 r12)) ∧
  Jn1 (true || (!decide (r12 = r5))) H_6))

def HoldAgain.code (next_ : Int) (most : Int) (callsa : Option Addr) (callsn : Nat) (callsc : Nat) (H : Heap) (K : Value → Heap → Prop) : Prop :=
  CallF Try.prog 7 #[] H fun u H_ => ∃ r : Bool, u = (.bool r) ∧
  (((!r)) = true →
  K (.bool false) H_) ∧
  (((!r)) = false →
  ∃ r1 : Bool, CallQ Try.prog 8 #[(.slice callsa callsn callsc)] H_ (.bool r1) ∧
  ((r1) = true →
  K (.bool true) H_) ∧
  ((r1) = false →
  CallF Try.prog 9 #[(.int .i64 next_), (.int .i64 most)] H_ fun u1 H_1 => ∃ r2 : Option Addr, ∃ r3 : Int, u1 = (.tuple #[(.pointer r2), (.int .i64 r3)]) ∧
  ((((!decide (r3 = 0)) || r2.isNone)) = true →
  K (.bool r2.isNone) H_1) ∧
  ((((!decide (r3 = 0)) || r2.isNone)) = false →
  ∃ (Inv : Int → Heap → Prop) (mu : Int → Heap → Nat), Inv 0 H_1 ∧
  ∀ (i : Int), ∀ H_2 : Heap, Inv i H_2 → HoldAgain.l5 callsa callsn K r1 r2 Inv mu i H_2)))

def HoldAgain.ann : Ann := (.seq .reg (.seq (.seq .reg (.cond (.seq .reg .no) .no)) (.seq (.seq .reg (.cond (.seq .reg .no) .no)) (.seq .reg (.seq (.seq .reg (.cond (.seq .reg .no) .no)) (.seq (.seq .reg (.blk (.loop [(9, .one (.int .i64))] (.seq (.seq .reg (.cond .no .no)) (.seq (.blk (.seq .reg (.condJ [] .reg .no))) .reg))))) (.seq .reg (.seq .reg (.seq .reg (.seq (.seq (.regJ [(82, .one (.bool))]) (.cond (.seq .reg .no) .no)) (.seq (.seq .reg (.blk (.loop [(13, .one (.int .i64))] (.seq (.seq .reg (.cond .no .no)) (.seq (.blk (.seq .reg (.seq .reg (.cond (.seq .reg .no) .no)))) .reg))))) (.seq (.seq (.regJ [(121, .one (.bool))]) (.cond (.seq .reg .no) .no)) (.seq (.seq .reg (.cond (.seq .reg .no) .no)) (.seq .reg (.seq .reg .no)))))))))))))))

theorem HoldAgain.eq (next_ : Int) (most : Int) (callsa : Option Addr) (callsn : Nat) (callsc : Nat) (H : Heap) (K : Value → Heap → Prop) : vcFun X Try.f6 HoldAgain.ann [(.int .i64 next_), (.int .i64 most), (.slice callsa callsn callsc)] H K = HoldAgain.code next_ most callsa callsn callsc H K := by kernel_rfl

theorem HoldAgain.call {next_ : Int} {most : Int} {callsa : Option Addr} {callsn : Nat} {callsc : Nat} {H : Heap} {K : Value → Heap → Prop} (h : HoldAgain.code next_ most callsa callsn callsc H K) : CallF Try.prog 6 #[(.int .i64 next_), (.int .i64 most), (.slice callsa callsn callsc)] H K :=
  callF_of_eq X_P X_wide X_bodied Try.func6 (HoldAgain.eq next_ most callsa callsn callsc H K) h

end Go.Proofs.Ytfgabhogcbmhoaa
