/-
  DERIVED: THE SHELF's CONTRACTS AT THIS DUMP, IN PLAIN WORDS (tools/lay-plain.mjs out of 'YtfgabhogcbmhoaaLIn.lean', which tools/lay-shelf.mjs wrote): THE SAME DECLARATIONS UNDER THE SAME NAMES: 'import', 'namespace', 'open', 'def', 'theorem' AND NOTHING ELSE: no command of the shelf's: FOR A HAND-IN. Each laying: the table of numbers ('.._ren') and one theorem, a field a fact of the dump's own or the kernel's comparison; each contract: ONE APPLICATION.
-/
import Derived.Shelf.SlIterI.Nil
import Derived.Shelf.SortM.Plain
import Derived.Shelf.SortM.SortNone
import Derived.Shelf.SlMaps.Clone
import Derived.Ground.GgzProg
import Derived.Ground.SlgmProg
import Derived.Ground.SlmcProg
import Derived.Test.YtfgabhogcbmhoaaProg
namespace Go.Proofs
open Go.Shelf
def Try.keysA_ren : Go.Shelf.Ren := ⟨fun | 7 => 24 | 10 => 28 | n => n, fun | 23 => 49 | 26 => 2 | 3 => 2 | 28 => 59 | 0 => 0 | 27 => 58 | 33 => 53 | 4 => 4 | n => n, fun | n => n⟩
theorem Try.keysA : Go.Proofs.SlLaysZI.n7 Try.prog Try.keysA_ren := {
  mixed := by kernel_rfl
  f7 := ⟨Try.f24.name, by decide, Try.func24.trans (congrArg some (by kernel_rfl))⟩
  f10 := ⟨Try.f28.name, by decide, Try.func28.trans (congrArg some (by kernel_rfl))⟩
  t0 := Try.underlying0
  a0 := Try.isAgg0
  z0 := Try.sizeOf0
  v0 := Try.zeroValue0
  t4 := Try.underlying4
  a4 := Try.isAgg4
  z4 := Try.sizeOf4
  v4 := Try.zeroValue4
  t23 := Try.underlying49
  a23 := Try.isAgg49
  z23 := Try.sizeOf49
  v23 := Try.zeroValue49
  t26 := Try.underlying2
  a26 := Try.isAgg2
  z26 := Try.sizeOf2
  v26 := Try.zeroValue2
  t27 := Try.underlying58
  a27 := Try.isAgg58
  z27 := Try.sizeOf58
  v27 := Try.zeroValue58
  t28 := Try.underlying59
  a28 := Try.isAgg59
  z28 := Try.sizeOf59
  v28 := Try.zeroValue59
  t33 := Try.underlying53
  a33 := Try.isAgg53
  z33 := Try.sizeOf53
  v33 := Try.zeroValue53 }
def Try.sortedA_ren : Go.Shelf.Ren := ⟨fun | 6 => 23 | 8 => 26 | 9 => 27 | 11 => 30 | 13 => 32 | 12 => 31 | 23 => 42 | 24 => 43 | 14 => 33 | 15 => 34 | 16 => 35 | 17 => 36 | 18 => 37 | 19 => 38 | 20 => 39 | 21 => 40 | 22 => 41 | 25 => 44 | 26 => 45 | 27 => 46 | 28 => 47 | 29 => 48 | 30 => 49 | 31 => 50 | n => n, fun | 26 => 2 | 28 => 59 | 24 => 32 | 0 => 0 | 3 => 3 | 37 => 67 | 48 => 78 | 50 => 80 | 4 => 4 | 40 => 70 | 39 => 69 | 45 => 75 | 5 => 5 | 9 => 9 | 51 => 81 | 55 => 85 | 57 => 87 | 58 => 88 | 33 => 53 | n => n, fun | n => n⟩
theorem Try.sortedA : Go.Proofs.SlLaysZI.n6 Try.prog Try.sortedA_ren := {
  mixed := by kernel_rfl
  f6 := ⟨Try.f23.name, by decide, Try.func23.trans (congrArg some (by kernel_rfl))⟩
  f8 := ⟨Try.f26.name, by decide, Try.func26.trans (congrArg some (by kernel_rfl))⟩
  f11 := ⟨Try.f30.name, by decide, Try.func30.trans (congrArg some (by kernel_rfl))⟩
  t0 := Try.underlying0
  a0 := Try.isAgg0
  z0 := Try.sizeOf0
  v0 := Try.zeroValue0
  t24 := Try.underlying32
  a24 := Try.isAgg32
  z24 := Try.sizeOf32
  v24 := Try.zeroValue32
  t26 := Try.underlying2
  a26 := Try.isAgg2
  z26 := Try.sizeOf2
  v26 := Try.zeroValue2
  t28 := Try.underlying59
  a28 := Try.isAgg59
  z28 := Try.sizeOf59
  v28 := Try.zeroValue59
  i26 := by kernel_rfl }
def Try.sortA_ren : Go.Shelf.Ren := ⟨fun | 5 => 27 | 8 => 32 | 7 => 31 | 19 => 42 | 20 => 43 | 10 => 33 | 11 => 34 | 12 => 35 | 13 => 36 | 14 => 37 | 15 => 38 | 16 => 39 | 17 => 40 | 18 => 41 | 30 => 44 | 31 => 45 | 32 => 46 | 33 => 47 | 34 => 48 | 35 => 49 | 40 => 50 | n => n, fun | 23 => 32 | 25 => 2 | 3 => 3 | 32 => 67 | 22 => 32 | 0 => 0 | 44 => 78 | 46 => 80 | 4 => 4 | 36 => 70 | 35 => 69 | 41 => 75 | 5 => 5 | 9 => 9 | 53 => 81 | 57 => 85 | 63 => 87 | 64 => 88 | n => n, fun | n => n⟩
theorem Try.sortA : Go.Proofs.SlLaysM.n5 Try.prog Try.sortA_ren := {
  mixed := by kernel_rfl
  f5 := ⟨Try.f27.name, by decide, Try.func27.trans (congrArg some (by kernel_rfl))⟩
  f7 := ⟨Try.f31.name, by decide, Try.func31.trans (congrArg some (by kernel_rfl))⟩
  f8 := Try.func32.trans (congrArg some (by kernel_rfl))
  f10 := ⟨Try.f33.name, by decide, Try.func33.trans (congrArg some (by kernel_rfl))⟩
  f11 := ⟨Try.f34.name, by decide, Try.func34.trans (congrArg some (by kernel_rfl))⟩
  f12 := ⟨Try.f35.name, by decide, Try.func35.trans (congrArg some (by kernel_rfl))⟩
  f13 := ⟨Try.f36.name, by decide, Try.func36.trans (congrArg some (by kernel_rfl))⟩
  f14 := ⟨Try.f37.name, by decide, Try.func37.trans (congrArg some (by kernel_rfl))⟩
  f15 := ⟨Try.f38.name, by decide, Try.func38.trans (congrArg some (by kernel_rfl))⟩
  f16 := ⟨Try.f39.name, by decide, Try.func39.trans (congrArg some (by kernel_rfl))⟩
  f17 := ⟨Try.f40.name, by decide, Try.func40.trans (congrArg some (by kernel_rfl))⟩
  f18 := ⟨Try.f41.name, by decide, Try.func41.trans (congrArg some (by kernel_rfl))⟩
  f19 := Try.func42.trans (congrArg some (by kernel_rfl))
  f20 := Try.func43.trans (congrArg some (by kernel_rfl))
  f30 := ⟨Try.f44.name, by decide, Try.func44.trans (congrArg some (by kernel_rfl))⟩
  f31 := Try.func45.trans (congrArg some (by kernel_rfl))
  f32 := Try.func46.trans (congrArg some (by kernel_rfl))
  f33 := ⟨Try.f47.name, by decide, Try.func47.trans (congrArg some (by kernel_rfl))⟩
  f34 := ⟨Try.f48.name, by decide, Try.func48.trans (congrArg some (by kernel_rfl))⟩
  f35 := ⟨Try.f49.name, by decide, Try.func49.trans (congrArg some (by kernel_rfl))⟩
  f40 := ⟨Try.f50.name, by decide, Try.func50.trans (congrArg some (by kernel_rfl))⟩
  t0 := Try.underlying0
  a0 := Try.isAgg0
  z0 := Try.sizeOf0
  v0 := Try.zeroValue0
  t3 := Try.underlying3
  a3 := Try.isAgg3
  z3 := Try.sizeOf3
  v3 := Try.zeroValue3
  t4 := Try.underlying4
  a4 := Try.isAgg4
  z4 := Try.sizeOf4
  v4 := Try.zeroValue4
  t5 := Try.underlying5
  a5 := Try.isAgg5
  z5 := Try.sizeOf5
  v5 := Try.zeroValue5
  t9 := Try.underlying9
  a9 := Try.isAgg9
  z9 := Try.sizeOf9
  v9 := Try.zeroValue9
  t22 := Try.underlying32
  a22 := Try.isAgg32
  z22 := Try.sizeOf32
  v22 := Try.zeroValue32
  t23 := Try.underlying32
  a23 := Try.isAgg32
  z23 := Try.sizeOf32
  v23 := Try.zeroValue32
  t25 := Try.underlying2
  a25 := Try.isAgg2
  z25 := Try.sizeOf2
  v25 := Try.zeroValue2
  t32 := Try.underlying67
  a32 := Try.isAgg67
  z32 := Try.sizeOf67
  v32 := Try.zeroValue67
  t35 := Try.underlying69
  a35 := Try.isAgg69
  z35 := Try.sizeOf69
  v35 := Try.zeroValue69
  t36 := Try.underlying70
  a36 := Try.isAgg70
  z36 := Try.sizeOf70
  v36 := Try.zeroValue70
  t41 := Try.underlying75
  a41 := Try.isAgg75
  z41 := Try.sizeOf75
  v41 := Try.zeroValue75
  t44 := Try.underlying78
  a44 := Try.isAgg78
  z44 := Try.sizeOf78
  v44 := Try.zeroValue78
  t46 := Try.underlying80
  a46 := Try.isAgg80
  z46 := Try.sizeOf80
  v46 := Try.zeroValue80
  t53 := Try.underlying81
  a53 := Try.isAgg81
  z53 := Try.sizeOf81
  v53 := Try.zeroValue81
  t57 := Try.underlying85
  a57 := Try.isAgg85
  z57 := Try.sizeOf85
  v57 := Try.zeroValue85
  t63 := Try.underlying87
  a63 := Try.isAgg87
  z63 := Try.sizeOf87
  v63 := Try.zeroValue87
  t64 := Try.underlying88
  a64 := Try.isAgg88
  z64 := Try.sizeOf88
  v64 := Try.zeroValue88 }
def Try.cloneA_ren : Go.Shelf.Ren := ⟨fun | 5 => 25 | 7 => 29 | n => n, fun | 23 => 49 | 25 => 2 | 3 => 2 | 4 => 4 | 20 => 20 | n => n, fun | n => n⟩
theorem Try.cloneA : Go.Proofs.SlLaysW.n5 Try.prog Try.cloneA_ren := {
  mixed := by kernel_rfl
  f5 := ⟨Try.f25.name, by decide, Try.func25.trans (congrArg some (by kernel_rfl))⟩
  f7 := Try.func29.trans (congrArg some (by kernel_rfl))
  t4 := Try.underlying4
  a4 := Try.isAgg4
  z4 := Try.sizeOf4
  v4 := Try.zeroValue4
  t20 := Try.underlying20
  a20 := Try.isAgg20
  z20 := Try.sizeOf20
  v20 := Try.zeroValue20
  t23 := Try.underlying49
  a23 := Try.isAgg49
  z23 := Try.sizeOf49
  v23 := Try.zeroValue49 }
end Go.Proofs
