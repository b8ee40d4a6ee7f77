/-
  DERIVED: THE SHELF's CONTRACTS AT THIS DUMP, IN PLAIN WORDS (tools/lay-plain.mjs out of 'SrcYtjekpbkmhgfhoaaGreatDoorPathS.lean', which tools/lay-shelf.mjs wrote): THE SAME DECLARATIONS UNDER THE SAME NAMES: 'import', 'namespace', 'open', 'def', 'theorem' AND NOTHING ELSE: no command of the shelf's: FOR A HAND-IN. Each laying: the table of numbers ('.._ren') and one theorem, a field a fact of the dump's own or the kernel's comparison; each contract: ONE APPLICATION.
-/
import Derived.Shelf.Strings.Split
import Derived.Shelf.Spec.SlicesGrow
import Derived.Ground.NamesProg
import Derived.Ground.Names8Prog
import Derived.Test.YtjekpbkmhgfhoaaGreatDoorProg
namespace Go.Proofs
open Go.Shelf
def Tryz.lays146_ren : Go.Shelf.Ren := ⟨fun | 146 => 98 | 221 => 133 | 268 => 165 | 138 => 166 | 143 => 132 | 195 => 200 | 197 => 201 | 218 => 202 | 219 => 164 | 260 => 226 | 217 => 196 | 225 => 197 | 224 => 198 | 267 => 199 | 266 => 224 | 314 => 225 | n => n, fun | 9 => 9 | 31 => 118 | 3 => 3 | 4 => 4 | 0 => 0 | 105 => 263 | 21 => 21 | 5 => 5 | 46 => 219 | 119 => 290 | 139 => 293 | 138 => 292 | 146 => 280 | 51 => 249 | n => n, fun | 1 => 25 | 3 => 28 | 4 => 29 | n => n⟩
theorem Tryz.lays146 : Go.Proofs.Lays.n146 Tryz.prog Tryz.lays146_ren := {
  mixed := by kernel_rfl
  f138 := Tryz.func166.trans (congrArg some (by kernel_rfl))
  f143 := Tryz.func132.trans (congrArg some (by kernel_rfl))
  f146 := Tryz.func98.trans (congrArg some (by kernel_rfl))
  f195 := Tryz.func200.trans (congrArg some (by kernel_rfl))
  f197 := Tryz.func201.trans (congrArg some (by kernel_rfl))
  f217 := Tryz.func196.trans (congrArg some (by kernel_rfl))
  f218 := Tryz.func202.trans (congrArg some (by kernel_rfl))
  f219 := Tryz.func164.trans (congrArg some (by kernel_rfl))
  f221 := Tryz.func133.trans (congrArg some (by kernel_rfl))
  f224 := Tryz.func198.trans (congrArg some (by kernel_rfl))
  f225 := Tryz.func197.trans (congrArg some (by kernel_rfl))
  f260 := Tryz.func226.trans (congrArg some (by kernel_rfl))
  f266 := Tryz.func224.trans (congrArg some (by kernel_rfl))
  f267 := Tryz.func199.trans (congrArg some (by kernel_rfl))
  f268 := Tryz.func165.trans (congrArg some (by kernel_rfl))
  f314 := Tryz.func225.trans (congrArg some (by kernel_rfl))
  t0 := Tryz.underlying0
  a0 := Tryz.isAgg0
  z0 := Tryz.sizeOf0
  v0 := Tryz.zeroValue0
  t3 := Tryz.underlying3
  a3 := Tryz.isAgg3
  z3 := Tryz.sizeOf3
  v3 := Tryz.zeroValue3
  t4 := Tryz.underlying4
  a4 := Tryz.isAgg4
  z4 := Tryz.sizeOf4
  v4 := Tryz.zeroValue4
  t5 := Tryz.underlying5
  a5 := Tryz.isAgg5
  z5 := Tryz.sizeOf5
  v5 := Tryz.zeroValue5
  t9 := Tryz.underlying9
  a9 := Tryz.isAgg9
  z9 := Tryz.sizeOf9
  v9 := Tryz.zeroValue9
  t21 := Tryz.underlying21
  a21 := Tryz.isAgg21
  z21 := Tryz.sizeOf21
  v21 := Tryz.zeroValue21
  t31 := Tryz.underlying118
  a31 := Tryz.isAgg118
  z31 := Tryz.sizeOf118
  v31 := Tryz.zeroValue118
  t46 := Tryz.underlying219
  a46 := Tryz.isAgg219
  z46 := Tryz.sizeOf219
  v46 := Tryz.zeroValue219
  t51 := Tryz.underlying249
  a51 := Tryz.isAgg249
  z51 := Tryz.sizeOf249
  v51 := Tryz.zeroValue249
  t105 := Tryz.underlying263
  a105 := Tryz.isAgg263
  z105 := Tryz.sizeOf263
  v105 := Tryz.zeroValue263
  t119 := Tryz.underlying290
  a119 := Tryz.isAgg290
  z119 := Tryz.sizeOf290
  t138 := Tryz.underlying292
  a138 := Tryz.isAgg292
  z138 := Tryz.sizeOf292
  v138 := Tryz.zeroValue292
  t139 := Tryz.underlying293
  a139 := Tryz.isAgg293
  z139 := Tryz.sizeOf293
  v139 := Tryz.zeroValue293
  t146 := Tryz.underlying280
  a146 := Tryz.isAgg280
  z146 := Tryz.sizeOf280
  v146 := Tryz.zeroValue280
  g1 := by kernel_rfl
  g3 := by kernel_rfl
  g4 := by kernel_rfl }
def Tryz.growS_ren : Go.Shelf.Ren := ⟨fun | 4 => 167 | n => n, fun | 22 => 118 | 25 => 9 | 3 => 3 | 4 => 4 | 9 => 9 | 20 => 20 | 0 => 0 | n => n, fun | n => n⟩
theorem Tryz.growS : Go.Proofs.Lays8.n4 Tryz.prog Tryz.growS_ren := {
  mixed := by kernel_rfl
  f4 := ⟨Tryz.f167.name, by decide, Tryz.func167.trans (congrArg some (by kernel_rfl))⟩
  t0 := Tryz.underlying0
  a0 := Tryz.isAgg0
  z0 := Tryz.sizeOf0
  v0 := Tryz.zeroValue0
  t3 := Tryz.underlying3
  a3 := Tryz.isAgg3
  z3 := Tryz.sizeOf3
  v3 := Tryz.zeroValue3
  t4 := Tryz.underlying4
  a4 := Tryz.isAgg4
  z4 := Tryz.sizeOf4
  v4 := Tryz.zeroValue4
  t9 := Tryz.underlying9
  a9 := Tryz.isAgg9
  z9 := Tryz.sizeOf9
  v9 := Tryz.zeroValue9
  t20 := Tryz.underlying20
  a20 := Tryz.isAgg20
  z20 := Tryz.sizeOf20
  v20 := Tryz.zeroValue20
  t22 := Tryz.underlying118
  a22 := Tryz.isAgg118
  z22 := Tryz.sizeOf118
  v22 := Tryz.zeroValue118 }
end Go.Proofs
