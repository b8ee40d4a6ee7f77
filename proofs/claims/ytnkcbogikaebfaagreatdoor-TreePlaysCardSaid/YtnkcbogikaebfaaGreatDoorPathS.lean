/-
  DERIVED: THE SHELF's CONTRACTS AT THIS DUMP, IN PLAIN WORDS (tools/lay-plain.mjs out of 'SrcYtnkcbogikaebfaaGreatDoorPathS.lean', which tools/lay-shelf.mjs wrote): THE SAME DECLARATIONS UNDER THE SAME NAMES: 'import', 'namespace', 'open', 'def', 'theorem' AND NOTHING ELSE: no command of the shelf's: FOR A HAND-IN. Each laying: the table of numbers ('.._ren') and one theorem, a field a fact of the dump's own or the kernel's comparison; each contract: ONE APPLICATION.
-/
import Derived.Shelf.Strings.Split
import Derived.Shelf.Spec.SlicesGrow
import Derived.Ground.NamesProg
import Derived.Ground.Names8Prog
import Derived.Test.YtnkcbogikaebfaaGreatDoorProg
namespace Go.Proofs
open Go.Shelf
def Tryz.lays146_ren : Go.Shelf.Ren := ⟨fun | 146 => 97 | 221 => 117 | 268 => 154 | 138 => 155 | 143 => 116 | 195 => 175 | 197 => 176 | 218 => 177 | 219 => 153 | 260 => 182 | 217 => 171 | 225 => 172 | 224 => 173 | 267 => 174 | 266 => 180 | 314 => 181 | n => n, fun | 9 => 9 | 31 => 88 | 3 => 3 | 4 => 4 | 0 => 0 | 105 => 235 | 21 => 21 | 5 => 5 | 46 => 184 | 119 => 242 | 139 => 245 | 138 => 244 | 146 => 240 | 51 => 211 | n => n, fun | 1 => 11 | 3 => 25 | 4 => 26 | n => n⟩
theorem Tryz.lays146 : Go.Proofs.Lays.n146 Tryz.prog Tryz.lays146_ren := {
  mixed := by kernel_rfl
  f138 := Tryz.func155.trans (congrArg some (by kernel_rfl))
  f143 := Tryz.func116.trans (congrArg some (by kernel_rfl))
  f146 := Tryz.func97.trans (congrArg some (by kernel_rfl))
  f195 := Tryz.func175.trans (congrArg some (by kernel_rfl))
  f197 := Tryz.func176.trans (congrArg some (by kernel_rfl))
  f217 := Tryz.func171.trans (congrArg some (by kernel_rfl))
  f218 := Tryz.func177.trans (congrArg some (by kernel_rfl))
  f219 := Tryz.func153.trans (congrArg some (by kernel_rfl))
  f221 := Tryz.func117.trans (congrArg some (by kernel_rfl))
  f224 := Tryz.func173.trans (congrArg some (by kernel_rfl))
  f225 := Tryz.func172.trans (congrArg some (by kernel_rfl))
  f260 := Tryz.func182.trans (congrArg some (by kernel_rfl))
  f266 := Tryz.func180.trans (congrArg some (by kernel_rfl))
  f267 := Tryz.func174.trans (congrArg some (by kernel_rfl))
  f268 := Tryz.func154.trans (congrArg some (by kernel_rfl))
  f314 := Tryz.func181.trans (congrArg some (by kernel_rfl))
  t0 := Tryz.underlying0
  a0 := Tryz.isAgg0
  z0 := Tryz.sizeOf0
  v0 := Tryz.zeroValue0
  t3 := Tryz.underlying3
  a3 := Tryz.isAgg3
  z3 := Tryz.sizeOf3
  v3 := Tryz.zeroValue3
  t4 := Tryz.underlying4
  a4 := Tryz.isAgg4
  z4 := Tryz.sizeOf4
  v4 := Tryz.zeroValue4
  t5 := Tryz.underlying5
  a5 := Tryz.isAgg5
  z5 := Tryz.sizeOf5
  v5 := Tryz.zeroValue5
  t9 := Tryz.underlying9
  a9 := Tryz.isAgg9
  z9 := Tryz.sizeOf9
  v9 := Tryz.zeroValue9
  t21 := Tryz.underlying21
  a21 := Tryz.isAgg21
  z21 := Tryz.sizeOf21
  v21 := Tryz.zeroValue21
  t31 := Tryz.underlying88
  a31 := Tryz.isAgg88
  z31 := Tryz.sizeOf88
  v31 := Tryz.zeroValue88
  t46 := Tryz.underlying184
  a46 := Tryz.isAgg184
  z46 := Tryz.sizeOf184
  v46 := Tryz.zeroValue184
  t51 := Tryz.underlying211
  a51 := Tryz.isAgg211
  z51 := Tryz.sizeOf211
  v51 := Tryz.zeroValue211
  t105 := Tryz.underlying235
  a105 := Tryz.isAgg235
  z105 := Tryz.sizeOf235
  v105 := Tryz.zeroValue235
  t119 := Tryz.underlying242
  a119 := Tryz.isAgg242
  z119 := Tryz.sizeOf242
  t138 := Tryz.underlying244
  a138 := Tryz.isAgg244
  z138 := Tryz.sizeOf244
  v138 := Tryz.zeroValue244
  t139 := Tryz.underlying245
  a139 := Tryz.isAgg245
  z139 := Tryz.sizeOf245
  v139 := Tryz.zeroValue245
  t146 := Tryz.underlying240
  a146 := Tryz.isAgg240
  z146 := Tryz.sizeOf240
  v146 := Tryz.zeroValue240
  g1 := by kernel_rfl
  g3 := by kernel_rfl
  g4 := by kernel_rfl }
def Tryz.growS_ren : Go.Shelf.Ren := ⟨fun | 4 => 156 | n => n, fun | 22 => 88 | 25 => 9 | 3 => 3 | 4 => 4 | 9 => 9 | 20 => 20 | 0 => 0 | n => n, fun | n => n⟩
theorem Tryz.growS : Go.Proofs.Lays8.n4 Tryz.prog Tryz.growS_ren := {
  mixed := by kernel_rfl
  f4 := ⟨Tryz.f156.name, by decide, Tryz.func156.trans (congrArg some (by kernel_rfl))⟩
  t0 := Tryz.underlying0
  a0 := Tryz.isAgg0
  z0 := Tryz.sizeOf0
  v0 := Tryz.zeroValue0
  t3 := Tryz.underlying3
  a3 := Tryz.isAgg3
  z3 := Tryz.sizeOf3
  v3 := Tryz.zeroValue3
  t4 := Tryz.underlying4
  a4 := Tryz.isAgg4
  z4 := Tryz.sizeOf4
  v4 := Tryz.zeroValue4
  t9 := Tryz.underlying9
  a9 := Tryz.isAgg9
  z9 := Tryz.sizeOf9
  v9 := Tryz.zeroValue9
  t20 := Tryz.underlying20
  a20 := Tryz.isAgg20
  z20 := Tryz.sizeOf20
  v20 := Tryz.zeroValue20
  t22 := Tryz.underlying88
  a22 := Tryz.isAgg88
  z22 := Tryz.sizeOf88
  v22 := Tryz.zeroValue88 }
end Go.Proofs
