/-
  DERIVED: THE SHELF's CONTRACTS AT THIS DUMP, IN PLAIN WORDS (tools/lay-plain.mjs out of 'SrcYtjekpbkmhgfhoaaGreatDoorIterS.lean', which tools/lay-shelf.mjs wrote): THE SAME DECLARATIONS UNDER THE SAME NAMES: 'import', 'namespace', 'open', 'def', 'theorem' AND NOTHING ELSE: no command of the shelf's: FOR A HAND-IN. Each laying: the table of numbers ('.._ren') and one theorem, a field a fact of the dump's own or the kernel's comparison; each contract: ONE APPLICATION.
-/
import Derived.Shelf.SlIter.Nil
import Derived.Shelf.SlIter.Sorted
import Derived.Shelf.SortM.Plain
import Derived.Shelf.SortM.SortNone
import Derived.Ground.GgzProg
import Derived.Ground.SlgmProg
import Derived.Test.YtjekpbkmhgfhoaaGreatDoorProg
namespace Go.Proofs
open Go.Shelf
def Tryz.keysEn_ren : Go.Shelf.Ren := ⟨fun | 7 => 131 | 10 => 163 | n => n, fun | 23 => 188 | 26 => 9 | 3 => 51 | 28 => 205 | 0 => 0 | 27 => 204 | 33 => 220 | 4 => 4 | n => n, fun | n => n⟩
theorem Tryz.keysEn : Go.Proofs.SlLaysZ.n7 Tryz.prog Tryz.keysEn_ren := {
  mixed := by kernel_rfl
  f7 := ⟨Tryz.f131.name, by decide, Tryz.func131.trans (congrArg some (by kernel_rfl))⟩
  f10 := ⟨Tryz.f163.name, by decide, Tryz.func163.trans (congrArg some (by kernel_rfl))⟩
  t0 := Tryz.underlying0
  a0 := Tryz.isAgg0
  z0 := Tryz.sizeOf0
  v0 := Tryz.zeroValue0
  t4 := Tryz.underlying4
  a4 := Tryz.isAgg4
  z4 := Tryz.sizeOf4
  v4 := Tryz.zeroValue4
  t23 := Tryz.underlying188
  a23 := Tryz.isAgg188
  z23 := Tryz.sizeOf188
  v23 := Tryz.zeroValue188
  t26 := Tryz.underlying9
  a26 := Tryz.isAgg9
  z26 := Tryz.sizeOf9
  v26 := Tryz.zeroValue9
  t27 := Tryz.underlying204
  a27 := Tryz.isAgg204
  z27 := Tryz.sizeOf204
  v27 := Tryz.zeroValue204
  t28 := Tryz.underlying205
  a28 := Tryz.isAgg205
  z28 := Tryz.sizeOf205
  v28 := Tryz.zeroValue205
  t33 := Tryz.underlying220
  a33 := Tryz.isAgg220
  z33 := Tryz.sizeOf220
  v33 := Tryz.zeroValue220 }
def Tryz.sortedS_ren : Go.Shelf.Ren := ⟨fun | 6 => 130 | 8 => 161 | 9 => 162 | 11 => 194 | 13 => 146 | 12 => 195 | 23 => 180 | 24 => 181 | 14 => 215 | 15 => 216 | 16 => 217 | 17 => 218 | 18 => 219 | 19 => 220 | 20 => 221 | 21 => 222 | 22 => 223 | 25 => 229 | 26 => 206 | 27 => 207 | 28 => 230 | 29 => 231 | 30 => 232 | 31 => 233 | n => n, fun | 26 => 9 | 28 => 205 | 24 => 118 | 0 => 0 | 3 => 3 | 37 => 219 | 48 => 249 | 50 => 228 | 4 => 4 | 40 => 242 | 39 => 241 | 45 => 246 | 5 => 5 | 9 => 9 | 51 => 267 | 55 => 271 | 57 => 282 | 58 => 283 | 33 => 220 | n => n, fun | n => n⟩
theorem Tryz.sortedS : Go.Proofs.SlLaysZ.n6 Tryz.prog Tryz.sortedS_ren := {
  mixed := by kernel_rfl
  f6 := ⟨Tryz.f130.name, by decide, Tryz.func130.trans (congrArg some (by kernel_rfl))⟩
  f8 := ⟨Tryz.f161.name, by decide, Tryz.func161.trans (congrArg some (by kernel_rfl))⟩
  f11 := ⟨Tryz.f194.name, by decide, Tryz.func194.trans (congrArg some (by kernel_rfl))⟩
  t0 := Tryz.underlying0
  a0 := Tryz.isAgg0
  z0 := Tryz.sizeOf0
  v0 := Tryz.zeroValue0
  t24 := Tryz.underlying118
  a24 := Tryz.isAgg118
  z24 := Tryz.sizeOf118
  v24 := Tryz.zeroValue118
  t26 := Tryz.underlying9
  a26 := Tryz.isAgg9
  z26 := Tryz.sizeOf9
  v26 := Tryz.zeroValue9
  t28 := Tryz.underlying205
  a28 := Tryz.isAgg205
  z28 := Tryz.sizeOf205
  v28 := Tryz.zeroValue205
  i26 := by kernel_rfl }
def Tryz.sortS_ren : Go.Shelf.Ren := ⟨fun | 6 => 162 | 8 => 146 | 9 => 195 | 19 => 180 | 20 => 181 | 21 => 215 | 22 => 216 | 23 => 217 | 24 => 218 | 25 => 219 | 26 => 220 | 27 => 221 | 28 => 222 | 29 => 223 | 36 => 229 | 31 => 206 | 32 => 207 | 37 => 230 | 38 => 231 | 39 => 232 | 41 => 233 | n => n, fun | 27 => 118 | 29 => 9 | 3 => 3 | 32 => 219 | 26 => 118 | 0 => 0 | 44 => 249 | 46 => 228 | 4 => 4 | 36 => 242 | 35 => 241 | 41 => 246 | 5 => 5 | 9 => 9 | 53 => 267 | 57 => 271 | 63 => 282 | 64 => 283 | n => n, fun | n => n⟩
theorem Tryz.sortS : Go.Proofs.SlLaysM.n6 Tryz.prog Tryz.sortS_ren := {
  mixed := by kernel_rfl
  f6 := ⟨Tryz.f162.name, by decide, Tryz.func162.trans (congrArg some (by kernel_rfl))⟩
  f8 := Tryz.func146.trans (congrArg some (by kernel_rfl))
  f9 := ⟨Tryz.f195.name, by decide, Tryz.func195.trans (congrArg some (by kernel_rfl))⟩
  f19 := Tryz.func180.trans (congrArg some (by kernel_rfl))
  f20 := Tryz.func181.trans (congrArg some (by kernel_rfl))
  f21 := ⟨Tryz.f215.name, by decide, Tryz.func215.trans (congrArg some (by kernel_rfl))⟩
  f22 := ⟨Tryz.f216.name, by decide, Tryz.func216.trans (congrArg some (by kernel_rfl))⟩
  f23 := ⟨Tryz.f217.name, by decide, Tryz.func217.trans (congrArg some (by kernel_rfl))⟩
  f24 := ⟨Tryz.f218.name, by decide, Tryz.func218.trans (congrArg some (by kernel_rfl))⟩
  f25 := ⟨Tryz.f219.name, by decide, Tryz.func219.trans (congrArg some (by kernel_rfl))⟩
  f26 := ⟨Tryz.f220.name, by decide, Tryz.func220.trans (congrArg some (by kernel_rfl))⟩
  f27 := ⟨Tryz.f221.name, by decide, Tryz.func221.trans (congrArg some (by kernel_rfl))⟩
  f28 := ⟨Tryz.f222.name, by decide, Tryz.func222.trans (congrArg some (by kernel_rfl))⟩
  f29 := ⟨Tryz.f223.name, by decide, Tryz.func223.trans (congrArg some (by kernel_rfl))⟩
  f31 := Tryz.func206.trans (congrArg some (by kernel_rfl))
  f32 := Tryz.func207.trans (congrArg some (by kernel_rfl))
  f36 := ⟨Tryz.f229.name, by decide, Tryz.func229.trans (congrArg some (by kernel_rfl))⟩
  f37 := ⟨Tryz.f230.name, by decide, Tryz.func230.trans (congrArg some (by kernel_rfl))⟩
  f38 := ⟨Tryz.f231.name, by decide, Tryz.func231.trans (congrArg some (by kernel_rfl))⟩
  f39 := ⟨Tryz.f232.name, by decide, Tryz.func232.trans (congrArg some (by kernel_rfl))⟩
  f41 := ⟨Tryz.f233.name, by decide, Tryz.func233.trans (congrArg some (by kernel_rfl))⟩
  t0 := Tryz.underlying0
  a0 := Tryz.isAgg0
  z0 := Tryz.sizeOf0
  v0 := Tryz.zeroValue0
  t3 := Tryz.underlying3
  a3 := Tryz.isAgg3
  z3 := Tryz.sizeOf3
  v3 := Tryz.zeroValue3
  t4 := Tryz.underlying4
  a4 := Tryz.isAgg4
  z4 := Tryz.sizeOf4
  v4 := Tryz.zeroValue4
  t5 := Tryz.underlying5
  a5 := Tryz.isAgg5
  z5 := Tryz.sizeOf5
  v5 := Tryz.zeroValue5
  t9 := Tryz.underlying9
  a9 := Tryz.isAgg9
  z9 := Tryz.sizeOf9
  v9 := Tryz.zeroValue9
  t26 := Tryz.underlying118
  a26 := Tryz.isAgg118
  z26 := Tryz.sizeOf118
  v26 := Tryz.zeroValue118
  t27 := Tryz.underlying118
  a27 := Tryz.isAgg118
  z27 := Tryz.sizeOf118
  v27 := Tryz.zeroValue118
  t29 := Tryz.underlying9
  a29 := Tryz.isAgg9
  z29 := Tryz.sizeOf9
  v29 := Tryz.zeroValue9
  t32 := Tryz.underlying219
  a32 := Tryz.isAgg219
  z32 := Tryz.sizeOf219
  v32 := Tryz.zeroValue219
  t35 := Tryz.underlying241
  a35 := Tryz.isAgg241
  z35 := Tryz.sizeOf241
  v35 := Tryz.zeroValue241
  t36 := Tryz.underlying242
  a36 := Tryz.isAgg242
  z36 := Tryz.sizeOf242
  v36 := Tryz.zeroValue242
  t41 := Tryz.underlying246
  a41 := Tryz.isAgg246
  z41 := Tryz.sizeOf246
  v41 := Tryz.zeroValue246
  t44 := Tryz.underlying249
  a44 := Tryz.isAgg249
  z44 := Tryz.sizeOf249
  v44 := Tryz.zeroValue249
  t46 := Tryz.underlying228
  a46 := Tryz.isAgg228
  z46 := Tryz.sizeOf228
  v46 := Tryz.zeroValue228
  t53 := Tryz.underlying267
  a53 := Tryz.isAgg267
  z53 := Tryz.sizeOf267
  v53 := Tryz.zeroValue267
  t57 := Tryz.underlying271
  a57 := Tryz.isAgg271
  z57 := Tryz.sizeOf271
  v57 := Tryz.zeroValue271
  t63 := Tryz.underlying282
  a63 := Tryz.isAgg282
  z63 := Tryz.sizeOf282
  v63 := Tryz.zeroValue282
  t64 := Tryz.underlying283
  a64 := Tryz.isAgg283
  z64 := Tryz.sizeOf283
  v64 := Tryz.zeroValue283 }
end Go.Proofs
