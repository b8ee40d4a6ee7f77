/-
  DERIVED: THE SHELF's CONTRACTS AT THIS DUMP, IN PLAIN WORDS (tools/lay-plain.mjs out of 'SrcYthominkfjfnkbaaDoorIterS.lean', which tools/lay-shelf.mjs wrote): THE SAME DECLARATIONS UNDER THE SAME NAMES: 'import', 'namespace', 'open', 'def', 'theorem' AND NOTHING ELSE: no command of the shelf's: FOR A HAND-IN. Each laying: the table of numbers ('.._ren') and one theorem, a field a fact of the dump's own or the kernel's comparison; each contract: ONE APPLICATION.
-/
import Derived.Shelf.SlIter.Nil
import Derived.Shelf.SlIter.Sorted
import Derived.Shelf.SortM.Plain
import Derived.Shelf.SortM.SortNone
import Derived.Ground.GgzProg
import Derived.Ground.SlgmProg
import Derived.Test.YthominkfjfnkbaaDoorProg
namespace Go.Proofs
open Go.Shelf
def Tryd.keysEn_ren : Go.Shelf.Ren := ⟨fun | 7 => 96 | 10 => 122 | n => n, fun | 23 => 79 | 26 => 9 | 3 => 84 | 28 => 151 | 0 => 0 | 27 => 150 | 33 => 63 | 4 => 4 | n => n, fun | n => n⟩
theorem Tryd.keysEn : Go.Proofs.SlLaysZ.n7 Tryd.prog Tryd.keysEn_ren := {
  mixed := by kernel_rfl
  f7 := ⟨Tryd.f96.name, by decide, Tryd.func96.trans (congrArg some (by kernel_rfl))⟩
  f10 := ⟨Tryd.f122.name, by decide, Tryd.func122.trans (congrArg some (by kernel_rfl))⟩
  t0 := Tryd.underlying0
  a0 := Tryd.isAgg0
  z0 := Tryd.sizeOf0
  v0 := Tryd.zeroValue0
  t4 := Tryd.underlying4
  a4 := Tryd.isAgg4
  z4 := Tryd.sizeOf4
  v4 := Tryd.zeroValue4
  t23 := Tryd.underlying79
  a23 := Tryd.isAgg79
  z23 := Tryd.sizeOf79
  v23 := Tryd.zeroValue79
  t26 := Tryd.underlying9
  a26 := Tryd.isAgg9
  z26 := Tryd.sizeOf9
  v26 := Tryd.zeroValue9
  t27 := Tryd.underlying150
  a27 := Tryd.isAgg150
  z27 := Tryd.sizeOf150
  v27 := Tryd.zeroValue150
  t28 := Tryd.underlying151
  a28 := Tryd.isAgg151
  z28 := Tryd.sizeOf151
  v28 := Tryd.zeroValue151
  t33 := Tryd.underlying63
  a33 := Tryd.isAgg63
  z33 := Tryd.sizeOf63
  v33 := Tryd.zeroValue63 }
def Tryd.sortedS_ren : Go.Shelf.Ren := ⟨fun | 6 => 95 | 8 => 120 | 9 => 121 | 11 => 140 | 13 => 133 | 12 => 141 | 23 => 154 | 24 => 155 | 14 => 171 | 15 => 172 | 16 => 173 | 17 => 174 | 18 => 175 | 19 => 176 | 20 => 124 | 21 => 177 | 22 => 178 | 25 => 193 | 26 => 184 | 27 => 185 | 28 => 194 | 29 => 195 | 30 => 142 | 31 => 202 | n => n, fun | 26 => 9 | 28 => 151 | 24 => 92 | 0 => 0 | 3 => 3 | 37 => 170 | 48 => 197 | 50 => 199 | 4 => 4 | 40 => 191 | 39 => 190 | 45 => 154 | 5 => 5 | 9 => 9 | 51 => 219 | 55 => 223 | 57 => 234 | 58 => 235 | 33 => 63 | n => n, fun | n => n⟩
theorem Tryd.sortedS : Go.Proofs.SlLaysZ.n6 Tryd.prog Tryd.sortedS_ren := {
  mixed := by kernel_rfl
  f6 := ⟨Tryd.f95.name, by decide, Tryd.func95.trans (congrArg some (by kernel_rfl))⟩
  f8 := ⟨Tryd.f120.name, by decide, Tryd.func120.trans (congrArg some (by kernel_rfl))⟩
  f11 := ⟨Tryd.f140.name, by decide, Tryd.func140.trans (congrArg some (by kernel_rfl))⟩
  t0 := Tryd.underlying0
  a0 := Tryd.isAgg0
  z0 := Tryd.sizeOf0
  v0 := Tryd.zeroValue0
  t24 := Tryd.underlying92
  a24 := Tryd.isAgg92
  z24 := Tryd.sizeOf92
  v24 := Tryd.zeroValue92
  t26 := Tryd.underlying9
  a26 := Tryd.isAgg9
  z26 := Tryd.sizeOf9
  v26 := Tryd.zeroValue9
  t28 := Tryd.underlying151
  a28 := Tryd.isAgg151
  z28 := Tryd.sizeOf151
  v28 := Tryd.zeroValue151
  i26 := by kernel_rfl }
def Tryd.sortS_ren : Go.Shelf.Ren := ⟨fun | 6 => 121 | 8 => 133 | 9 => 141 | 19 => 154 | 20 => 155 | 21 => 171 | 22 => 172 | 23 => 173 | 24 => 174 | 25 => 175 | 26 => 176 | 27 => 124 | 28 => 177 | 29 => 178 | 36 => 193 | 31 => 184 | 32 => 185 | 37 => 194 | 38 => 195 | 39 => 142 | 41 => 202 | n => n, fun | 27 => 92 | 29 => 9 | 3 => 3 | 32 => 170 | 26 => 92 | 0 => 0 | 44 => 197 | 46 => 199 | 4 => 4 | 36 => 191 | 35 => 190 | 41 => 154 | 5 => 5 | 9 => 9 | 53 => 219 | 57 => 223 | 63 => 234 | 64 => 235 | n => n, fun | n => n⟩
theorem Tryd.sortS : Go.Proofs.SlLaysM.n6 Tryd.prog Tryd.sortS_ren := {
  mixed := by kernel_rfl
  f6 := ⟨Tryd.f121.name, by decide, Tryd.func121.trans (congrArg some (by kernel_rfl))⟩
  f8 := Tryd.func133.trans (congrArg some (by kernel_rfl))
  f9 := ⟨Tryd.f141.name, by decide, Tryd.func141.trans (congrArg some (by kernel_rfl))⟩
  f19 := Tryd.func154.trans (congrArg some (by kernel_rfl))
  f20 := Tryd.func155.trans (congrArg some (by kernel_rfl))
  f21 := ⟨Tryd.f171.name, by decide, Tryd.func171.trans (congrArg some (by kernel_rfl))⟩
  f22 := ⟨Tryd.f172.name, by decide, Tryd.func172.trans (congrArg some (by kernel_rfl))⟩
  f23 := ⟨Tryd.f173.name, by decide, Tryd.func173.trans (congrArg some (by kernel_rfl))⟩
  f24 := ⟨Tryd.f174.name, by decide, Tryd.func174.trans (congrArg some (by kernel_rfl))⟩
  f25 := ⟨Tryd.f175.name, by decide, Tryd.func175.trans (congrArg some (by kernel_rfl))⟩
  f26 := ⟨Tryd.f176.name, by decide, Tryd.func176.trans (congrArg some (by kernel_rfl))⟩
  f27 := ⟨Tryd.f124.name, by decide, Tryd.func124.trans (congrArg some (by kernel_rfl))⟩
  f28 := ⟨Tryd.f177.name, by decide, Tryd.func177.trans (congrArg some (by kernel_rfl))⟩
  f29 := ⟨Tryd.f178.name, by decide, Tryd.func178.trans (congrArg some (by kernel_rfl))⟩
  f31 := Tryd.func184.trans (congrArg some (by kernel_rfl))
  f32 := Tryd.func185.trans (congrArg some (by kernel_rfl))
  f36 := ⟨Tryd.f193.name, by decide, Tryd.func193.trans (congrArg some (by kernel_rfl))⟩
  f37 := ⟨Tryd.f194.name, by decide, Tryd.func194.trans (congrArg some (by kernel_rfl))⟩
  f38 := ⟨Tryd.f195.name, by decide, Tryd.func195.trans (congrArg some (by kernel_rfl))⟩
  f39 := ⟨Tryd.f142.name, by decide, Tryd.func142.trans (congrArg some (by kernel_rfl))⟩
  f41 := ⟨Tryd.f202.name, by decide, Tryd.func202.trans (congrArg some (by kernel_rfl))⟩
  t0 := Tryd.underlying0
  a0 := Tryd.isAgg0
  z0 := Tryd.sizeOf0
  v0 := Tryd.zeroValue0
  t3 := Tryd.underlying3
  a3 := Tryd.isAgg3
  z3 := Tryd.sizeOf3
  v3 := Tryd.zeroValue3
  t4 := Tryd.underlying4
  a4 := Tryd.isAgg4
  z4 := Tryd.sizeOf4
  v4 := Tryd.zeroValue4
  t5 := Tryd.underlying5
  a5 := Tryd.isAgg5
  z5 := Tryd.sizeOf5
  v5 := Tryd.zeroValue5
  t9 := Tryd.underlying9
  a9 := Tryd.isAgg9
  z9 := Tryd.sizeOf9
  v9 := Tryd.zeroValue9
  t26 := Tryd.underlying92
  a26 := Tryd.isAgg92
  z26 := Tryd.sizeOf92
  v26 := Tryd.zeroValue92
  t27 := Tryd.underlying92
  a27 := Tryd.isAgg92
  z27 := Tryd.sizeOf92
  v27 := Tryd.zeroValue92
  t29 := Tryd.underlying9
  a29 := Tryd.isAgg9
  z29 := Tryd.sizeOf9
  v29 := Tryd.zeroValue9
  t32 := Tryd.underlying170
  a32 := Tryd.isAgg170
  z32 := Tryd.sizeOf170
  v32 := Tryd.zeroValue170
  t35 := Tryd.underlying190
  a35 := Tryd.isAgg190
  z35 := Tryd.sizeOf190
  v35 := Tryd.zeroValue190
  t36 := Tryd.underlying191
  a36 := Tryd.isAgg191
  z36 := Tryd.sizeOf191
  v36 := Tryd.zeroValue191
  t41 := Tryd.underlying154
  a41 := Tryd.isAgg154
  z41 := Tryd.sizeOf154
  v41 := Tryd.zeroValue154
  t44 := Tryd.underlying197
  a44 := Tryd.isAgg197
  z44 := Tryd.sizeOf197
  v44 := Tryd.zeroValue197
  t46 := Tryd.underlying199
  a46 := Tryd.isAgg199
  z46 := Tryd.sizeOf199
  v46 := Tryd.zeroValue199
  t53 := Tryd.underlying219
  a53 := Tryd.isAgg219
  z53 := Tryd.sizeOf219
  v53 := Tryd.zeroValue219
  t57 := Tryd.underlying223
  a57 := Tryd.isAgg223
  z57 := Tryd.sizeOf223
  v57 := Tryd.zeroValue223
  t63 := Tryd.underlying234
  a63 := Tryd.isAgg234
  z63 := Tryd.sizeOf234
  v63 := Tryd.zeroValue234
  t64 := Tryd.underlying235
  a64 := Tryd.isAgg235
  z64 := Tryd.sizeOf235
  v64 := Tryd.zeroValue235 }
end Go.Proofs
