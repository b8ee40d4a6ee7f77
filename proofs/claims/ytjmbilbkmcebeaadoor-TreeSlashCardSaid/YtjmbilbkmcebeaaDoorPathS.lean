/-
  DERIVED: THE SHELF's CONTRACTS AT THIS DUMP, IN PLAIN WORDS (tools/lay-plain.mjs out of 'SrcYtjmbilbkmcebeaaDoorPathS.lean', which tools/lay-shelf.mjs wrote): THE SAME DECLARATIONS UNDER THE SAME NAMES: 'import', 'namespace', 'open', 'def', 'theorem' AND NOTHING ELSE: no command of the shelf's: FOR A HAND-IN. Each laying: the table of numbers ('.._ren') and one theorem, a field a fact of the dump's own or the kernel's comparison; each contract: ONE APPLICATION.
-/
import Derived.Shelf.Strings.Split
import Derived.Shelf.Spec.SlicesGrow
import Derived.Ground.NamesProg
import Derived.Ground.Names8Prog
import Derived.Test.YtjmbilbkmcebeaaDoorProg
namespace Go.Proofs
open Go.Shelf
def Tryd.lays146_ren : Go.Shelf.Ren := ⟨fun | 146 => 61 | 221 => 85 | 268 => 122 | 138 => 123 | 143 => 84 | 195 => 140 | 197 => 141 | 218 => 142 | 219 => 121 | 260 => 147 | 217 => 136 | 225 => 137 | 224 => 138 | 267 => 139 | 266 => 145 | 314 => 146 | n => n, fun | 9 => 9 | 31 => 66 | 3 => 3 | 4 => 4 | 0 => 0 | 105 => 199 | 21 => 21 | 5 => 5 | 46 => 142 | 119 => 207 | 139 => 210 | 138 => 209 | 146 => 205 | 51 => 174 | n => n, fun | 1 => 12 | 3 => 25 | 4 => 26 | n => n⟩
theorem Tryd.lays146 : Go.Proofs.Lays.n146 Tryd.prog Tryd.lays146_ren := {
  mixed := by kernel_rfl
  f138 := Tryd.func123.trans (congrArg some (by kernel_rfl))
  f143 := Tryd.func84.trans (congrArg some (by kernel_rfl))
  f146 := Tryd.func61.trans (congrArg some (by kernel_rfl))
  f195 := Tryd.func140.trans (congrArg some (by kernel_rfl))
  f197 := Tryd.func141.trans (congrArg some (by kernel_rfl))
  f217 := Tryd.func136.trans (congrArg some (by kernel_rfl))
  f218 := Tryd.func142.trans (congrArg some (by kernel_rfl))
  f219 := Tryd.func121.trans (congrArg some (by kernel_rfl))
  f221 := Tryd.func85.trans (congrArg some (by kernel_rfl))
  f224 := Tryd.func138.trans (congrArg some (by kernel_rfl))
  f225 := Tryd.func137.trans (congrArg some (by kernel_rfl))
  f260 := Tryd.func147.trans (congrArg some (by kernel_rfl))
  f266 := Tryd.func145.trans (congrArg some (by kernel_rfl))
  f267 := Tryd.func139.trans (congrArg some (by kernel_rfl))
  f268 := Tryd.func122.trans (congrArg some (by kernel_rfl))
  f314 := Tryd.func146.trans (congrArg some (by kernel_rfl))
  t0 := Tryd.underlying0
  a0 := Tryd.isAgg0
  z0 := Tryd.sizeOf0
  v0 := Tryd.zeroValue0
  t3 := Tryd.underlying3
  a3 := Tryd.isAgg3
  z3 := Tryd.sizeOf3
  v3 := Tryd.zeroValue3
  t4 := Tryd.underlying4
  a4 := Tryd.isAgg4
  z4 := Tryd.sizeOf4
  v4 := Tryd.zeroValue4
  t5 := Tryd.underlying5
  a5 := Tryd.isAgg5
  z5 := Tryd.sizeOf5
  v5 := Tryd.zeroValue5
  t9 := Tryd.underlying9
  a9 := Tryd.isAgg9
  z9 := Tryd.sizeOf9
  v9 := Tryd.zeroValue9
  t21 := Tryd.underlying21
  a21 := Tryd.isAgg21
  z21 := Tryd.sizeOf21
  v21 := Tryd.zeroValue21
  t31 := Tryd.underlying66
  a31 := Tryd.isAgg66
  z31 := Tryd.sizeOf66
  v31 := Tryd.zeroValue66
  t46 := Tryd.underlying142
  a46 := Tryd.isAgg142
  z46 := Tryd.sizeOf142
  v46 := Tryd.zeroValue142
  t51 := Tryd.underlying174
  a51 := Tryd.isAgg174
  z51 := Tryd.sizeOf174
  v51 := Tryd.zeroValue174
  t105 := Tryd.underlying199
  a105 := Tryd.isAgg199
  z105 := Tryd.sizeOf199
  v105 := Tryd.zeroValue199
  t119 := Tryd.underlying207
  a119 := Tryd.isAgg207
  z119 := Tryd.sizeOf207
  t138 := Tryd.underlying209
  a138 := Tryd.isAgg209
  z138 := Tryd.sizeOf209
  v138 := Tryd.zeroValue209
  t139 := Tryd.underlying210
  a139 := Tryd.isAgg210
  z139 := Tryd.sizeOf210
  v139 := Tryd.zeroValue210
  t146 := Tryd.underlying205
  a146 := Tryd.isAgg205
  z146 := Tryd.sizeOf205
  v146 := Tryd.zeroValue205
  g1 := by kernel_rfl
  g3 := by kernel_rfl
  g4 := by kernel_rfl }
def Tryd.growS_ren : Go.Shelf.Ren := ⟨fun | 4 => 125 | n => n, fun | 22 => 66 | 25 => 9 | 3 => 3 | 4 => 4 | 9 => 9 | 20 => 20 | 0 => 0 | n => n, fun | n => n⟩
theorem Tryd.growS : Go.Proofs.Lays8.n4 Tryd.prog Tryd.growS_ren := {
  mixed := by kernel_rfl
  f4 := ⟨Tryd.f125.name, by decide, Tryd.func125.trans (congrArg some (by kernel_rfl))⟩
  t0 := Tryd.underlying0
  a0 := Tryd.isAgg0
  z0 := Tryd.sizeOf0
  v0 := Tryd.zeroValue0
  t3 := Tryd.underlying3
  a3 := Tryd.isAgg3
  z3 := Tryd.sizeOf3
  v3 := Tryd.zeroValue3
  t4 := Tryd.underlying4
  a4 := Tryd.isAgg4
  z4 := Tryd.sizeOf4
  v4 := Tryd.zeroValue4
  t9 := Tryd.underlying9
  a9 := Tryd.isAgg9
  z9 := Tryd.sizeOf9
  v9 := Tryd.zeroValue9
  t20 := Tryd.underlying20
  a20 := Tryd.isAgg20
  z20 := Tryd.sizeOf20
  v20 := Tryd.zeroValue20
  t22 := Tryd.underlying66
  a22 := Tryd.isAgg66
  z22 := Tryd.sizeOf66
  v22 := Tryd.zeroValue66 }
end Go.Proofs
