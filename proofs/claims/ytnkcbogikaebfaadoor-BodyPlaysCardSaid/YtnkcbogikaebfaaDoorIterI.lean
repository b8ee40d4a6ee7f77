/-
  DERIVED: THE SHELF's CONTRACTS AT THIS DUMP, IN PLAIN WORDS (tools/lay-plain.mjs out of 'SrcYtnkcbogikaebfaaDoorIterI.lean', which tools/lay-shelf.mjs wrote): THE SAME DECLARATIONS UNDER THE SAME NAMES: 'import', 'namespace', 'open', 'def', 'theorem' AND NOTHING ELSE: no command of the shelf's: FOR A HAND-IN. Each laying: the table of numbers ('.._ren') and one theorem, a field a fact of the dump's own or the kernel's comparison; each contract: ONE APPLICATION.
-/
import Derived.Shelf.SlIterI.Nil
import Derived.Shelf.SlIterI.Sorted
import Derived.Shelf.SortM.Plain
import Derived.Shelf.SortM.SortNone
import Derived.Ground.GgzProg
import Derived.Ground.SlgmProg
import Derived.Test.YtnkcbogikaebfaaDoorProg
namespace Go.Proofs
open Go.Shelf
def Tryd.sortI_ren : Go.Shelf.Ren := ⟨fun | 5 => 30 | 8 => 40 | 7 => 41 | 19 => 55 | 20 => 56 | 10 => 57 | 11 => 58 | 12 => 59 | 13 => 60 | 14 => 61 | 15 => 62 | 16 => 63 | 17 => 64 | 18 => 65 | 30 => 73 | 31 => 69 | 32 => 70 | 33 => 74 | 34 => 75 | 35 => 43 | 40 => 77 | n => n, fun | 23 => 43 | 25 => 3 | 3 => 3 | 32 => 78 | 22 => 43 | 0 => 0 | 44 => 98 | 46 => 100 | 4 => 4 | 36 => 91 | 35 => 90 | 41 => 95 | 5 => 5 | 9 => 9 | 53 => 110 | 57 => 114 | 63 => 118 | 64 => 119 | n => n, fun | n => n⟩
theorem Tryd.sortI : Go.Proofs.SlLaysM.n5 Tryd.prog Tryd.sortI_ren := {
  mixed := by kernel_rfl
  f5 := ⟨Tryd.f30.name, by decide, Tryd.func30.trans (congrArg some (by kernel_rfl))⟩
  f7 := ⟨Tryd.f41.name, by decide, Tryd.func41.trans (congrArg some (by kernel_rfl))⟩
  f8 := Tryd.func40.trans (congrArg some (by kernel_rfl))
  f10 := ⟨Tryd.f57.name, by decide, Tryd.func57.trans (congrArg some (by kernel_rfl))⟩
  f11 := ⟨Tryd.f58.name, by decide, Tryd.func58.trans (congrArg some (by kernel_rfl))⟩
  f12 := ⟨Tryd.f59.name, by decide, Tryd.func59.trans (congrArg some (by kernel_rfl))⟩
  f13 := ⟨Tryd.f60.name, by decide, Tryd.func60.trans (congrArg some (by kernel_rfl))⟩
  f14 := ⟨Tryd.f61.name, by decide, Tryd.func61.trans (congrArg some (by kernel_rfl))⟩
  f15 := ⟨Tryd.f62.name, by decide, Tryd.func62.trans (congrArg some (by kernel_rfl))⟩
  f16 := ⟨Tryd.f63.name, by decide, Tryd.func63.trans (congrArg some (by kernel_rfl))⟩
  f17 := ⟨Tryd.f64.name, by decide, Tryd.func64.trans (congrArg some (by kernel_rfl))⟩
  f18 := ⟨Tryd.f65.name, by decide, Tryd.func65.trans (congrArg some (by kernel_rfl))⟩
  f19 := Tryd.func55.trans (congrArg some (by kernel_rfl))
  f20 := Tryd.func56.trans (congrArg some (by kernel_rfl))
  f30 := ⟨Tryd.f73.name, by decide, Tryd.func73.trans (congrArg some (by kernel_rfl))⟩
  f31 := Tryd.func69.trans (congrArg some (by kernel_rfl))
  f32 := Tryd.func70.trans (congrArg some (by kernel_rfl))
  f33 := ⟨Tryd.f74.name, by decide, Tryd.func74.trans (congrArg some (by kernel_rfl))⟩
  f34 := ⟨Tryd.f75.name, by decide, Tryd.func75.trans (congrArg some (by kernel_rfl))⟩
  f35 := ⟨Tryd.f43.name, by decide, Tryd.func43.trans (congrArg some (by kernel_rfl))⟩
  f40 := ⟨Tryd.f77.name, by decide, Tryd.func77.trans (congrArg some (by kernel_rfl))⟩
  t0 := Tryd.underlying0
  a0 := Tryd.isAgg0
  z0 := Tryd.sizeOf0
  v0 := Tryd.zeroValue0
  t3 := Tryd.underlying3
  a3 := Tryd.isAgg3
  z3 := Tryd.sizeOf3
  v3 := Tryd.zeroValue3
  t4 := Tryd.underlying4
  a4 := Tryd.isAgg4
  z4 := Tryd.sizeOf4
  v4 := Tryd.zeroValue4
  t5 := Tryd.underlying5
  a5 := Tryd.isAgg5
  z5 := Tryd.sizeOf5
  v5 := Tryd.zeroValue5
  t9 := Tryd.underlying9
  a9 := Tryd.isAgg9
  z9 := Tryd.sizeOf9
  v9 := Tryd.zeroValue9
  t22 := Tryd.underlying43
  a22 := Tryd.isAgg43
  z22 := Tryd.sizeOf43
  v22 := Tryd.zeroValue43
  t23 := Tryd.underlying43
  a23 := Tryd.isAgg43
  z23 := Tryd.sizeOf43
  v23 := Tryd.zeroValue43
  t25 := Tryd.underlying3
  a25 := Tryd.isAgg3
  z25 := Tryd.sizeOf3
  v25 := Tryd.zeroValue3
  t32 := Tryd.underlying78
  a32 := Tryd.isAgg78
  z32 := Tryd.sizeOf78
  v32 := Tryd.zeroValue78
  t35 := Tryd.underlying90
  a35 := Tryd.isAgg90
  z35 := Tryd.sizeOf90
  v35 := Tryd.zeroValue90
  t36 := Tryd.underlying91
  a36 := Tryd.isAgg91
  z36 := Tryd.sizeOf91
  v36 := Tryd.zeroValue91
  t41 := Tryd.underlying95
  a41 := Tryd.isAgg95
  z41 := Tryd.sizeOf95
  v41 := Tryd.zeroValue95
  t44 := Tryd.underlying98
  a44 := Tryd.isAgg98
  z44 := Tryd.sizeOf98
  v44 := Tryd.zeroValue98
  t46 := Tryd.underlying100
  a46 := Tryd.isAgg100
  z46 := Tryd.sizeOf100
  v46 := Tryd.zeroValue100
  t53 := Tryd.underlying110
  a53 := Tryd.isAgg110
  z53 := Tryd.sizeOf110
  v53 := Tryd.zeroValue110
  t57 := Tryd.underlying114
  a57 := Tryd.isAgg114
  z57 := Tryd.sizeOf114
  v57 := Tryd.zeroValue114
  t63 := Tryd.underlying118
  a63 := Tryd.isAgg118
  z63 := Tryd.sizeOf118
  v63 := Tryd.zeroValue118
  t64 := Tryd.underlying119
  a64 := Tryd.isAgg119
  z64 := Tryd.sizeOf119
  v64 := Tryd.zeroValue119 }
end Go.Proofs
