/-
  DERIVED: THE SHELF's CONTRACTS AT THIS DUMP, IN PLAIN WORDS (tools/lay-plain.mjs out of 'SrcYtjmbilbkmcebeaaGreatDoorIterS.lean', which tools/lay-shelf.mjs wrote): THE SAME DECLARATIONS UNDER THE SAME NAMES: 'import', 'namespace', 'open', 'def', 'theorem' AND NOTHING ELSE: no command of the shelf's: FOR A HAND-IN. Each laying: the table of numbers ('.._ren') and one theorem, a field a fact of the dump's own or the kernel's comparison; each contract: ONE APPLICATION.
-/
import Derived.Shelf.SlIter.Nil
import Derived.Shelf.SlIter.Sorted
import Derived.Shelf.SortM.Plain
import Derived.Shelf.SortM.SortNone
import Derived.Ground.GgzProg
import Derived.Ground.SlgmProg
import Derived.Test.YtjmbilbkmcebeaaGreatDoorProg
namespace Go.Proofs
open Go.Shelf
def Tryz.keysEn_ren : Go.Shelf.Ren := ⟨fun | 7 => 65 | 10 => 106 | n => n, fun | 23 => 118 | 26 => 9 | 3 => 63 | 28 => 123 | 0 => 0 | 27 => 122 | 33 => 172 | 4 => 4 | n => n, fun | n => n⟩
theorem Tryz.keysEn : Go.Proofs.SlLaysZ.n7 Tryz.prog Tryz.keysEn_ren := {
  mixed := by kernel_rfl
  f7 := ⟨Tryz.f65.name, by decide, Tryz.func65.trans (congrArg some (by kernel_rfl))⟩
  f10 := ⟨Tryz.f106.name, by decide, Tryz.func106.trans (congrArg some (by kernel_rfl))⟩
  t0 := Tryz.underlying0
  a0 := Tryz.isAgg0
  z0 := Tryz.sizeOf0
  v0 := Tryz.zeroValue0
  t4 := Tryz.underlying4
  a4 := Tryz.isAgg4
  z4 := Tryz.sizeOf4
  v4 := Tryz.zeroValue4
  t23 := Tryz.underlying118
  a23 := Tryz.isAgg118
  z23 := Tryz.sizeOf118
  v23 := Tryz.zeroValue118
  t26 := Tryz.underlying9
  a26 := Tryz.isAgg9
  z26 := Tryz.sizeOf9
  v26 := Tryz.zeroValue9
  t27 := Tryz.underlying122
  a27 := Tryz.isAgg122
  z27 := Tryz.sizeOf122
  v27 := Tryz.zeroValue122
  t28 := Tryz.underlying123
  a28 := Tryz.isAgg123
  z28 := Tryz.sizeOf123
  v28 := Tryz.zeroValue123
  t33 := Tryz.underlying172
  a33 := Tryz.isAgg172
  z33 := Tryz.sizeOf172
  v33 := Tryz.zeroValue172 }
def Tryz.sortedS_ren : Go.Shelf.Ren := ⟨fun | 6 => 64 | 8 => 104 | 9 => 105 | 11 => 137 | 13 => 136 | 12 => 138 | 23 => 158 | 24 => 159 | 14 => 160 | 15 => 161 | 16 => 162 | 17 => 163 | 18 => 164 | 19 => 165 | 20 => 166 | 21 => 167 | 22 => 168 | 25 => 187 | 26 => 182 | 27 => 183 | 28 => 188 | 29 => 189 | 30 => 190 | 31 => 199 | n => n, fun | 26 => 9 | 28 => 123 | 24 => 26 | 0 => 0 | 3 => 3 | 37 => 200 | 48 => 221 | 50 => 223 | 4 => 4 | 40 => 214 | 39 => 213 | 45 => 218 | 5 => 5 | 9 => 9 | 51 => 237 | 55 => 241 | 57 => 250 | 58 => 70 | 33 => 172 | n => n, fun | n => n⟩
theorem Tryz.sortedS : Go.Proofs.SlLaysZ.n6 Tryz.prog Tryz.sortedS_ren := {
  mixed := by kernel_rfl
  f6 := ⟨Tryz.f64.name, by decide, Tryz.func64.trans (congrArg some (by kernel_rfl))⟩
  f8 := ⟨Tryz.f104.name, by decide, Tryz.func104.trans (congrArg some (by kernel_rfl))⟩
  f11 := ⟨Tryz.f137.name, by decide, Tryz.func137.trans (congrArg some (by kernel_rfl))⟩
  t0 := Tryz.underlying0
  a0 := Tryz.isAgg0
  z0 := Tryz.sizeOf0
  v0 := Tryz.zeroValue0
  t24 := Tryz.underlying26
  a24 := Tryz.isAgg26
  z24 := Tryz.sizeOf26
  v24 := Tryz.zeroValue26
  t26 := Tryz.underlying9
  a26 := Tryz.isAgg9
  z26 := Tryz.sizeOf9
  v26 := Tryz.zeroValue9
  t28 := Tryz.underlying123
  a28 := Tryz.isAgg123
  z28 := Tryz.sizeOf123
  v28 := Tryz.zeroValue123
  i26 := by kernel_rfl }
def Tryz.sortS_ren : Go.Shelf.Ren := ⟨fun | 6 => 105 | 8 => 136 | 9 => 138 | 19 => 158 | 20 => 159 | 21 => 160 | 22 => 161 | 23 => 162 | 24 => 163 | 25 => 164 | 26 => 165 | 27 => 166 | 28 => 167 | 29 => 168 | 36 => 187 | 31 => 182 | 32 => 183 | 37 => 188 | 38 => 189 | 39 => 190 | 41 => 199 | n => n, fun | 27 => 26 | 29 => 9 | 3 => 3 | 32 => 200 | 26 => 26 | 0 => 0 | 44 => 221 | 46 => 223 | 4 => 4 | 36 => 214 | 35 => 213 | 41 => 218 | 5 => 5 | 9 => 9 | 53 => 237 | 57 => 241 | 63 => 250 | 64 => 70 | n => n, fun | n => n⟩
theorem Tryz.sortS : Go.Proofs.SlLaysM.n6 Tryz.prog Tryz.sortS_ren := {
  mixed := by kernel_rfl
  f6 := ⟨Tryz.f105.name, by decide, Tryz.func105.trans (congrArg some (by kernel_rfl))⟩
  f8 := Tryz.func136.trans (congrArg some (by kernel_rfl))
  f9 := ⟨Tryz.f138.name, by decide, Tryz.func138.trans (congrArg some (by kernel_rfl))⟩
  f19 := Tryz.func158.trans (congrArg some (by kernel_rfl))
  f20 := Tryz.func159.trans (congrArg some (by kernel_rfl))
  f21 := ⟨Tryz.f160.name, by decide, Tryz.func160.trans (congrArg some (by kernel_rfl))⟩
  f22 := ⟨Tryz.f161.name, by decide, Tryz.func161.trans (congrArg some (by kernel_rfl))⟩
  f23 := ⟨Tryz.f162.name, by decide, Tryz.func162.trans (congrArg some (by kernel_rfl))⟩
  f24 := ⟨Tryz.f163.name, by decide, Tryz.func163.trans (congrArg some (by kernel_rfl))⟩
  f25 := ⟨Tryz.f164.name, by decide, Tryz.func164.trans (congrArg some (by kernel_rfl))⟩
  f26 := ⟨Tryz.f165.name, by decide, Tryz.func165.trans (congrArg some (by kernel_rfl))⟩
  f27 := ⟨Tryz.f166.name, by decide, Tryz.func166.trans (congrArg some (by kernel_rfl))⟩
  f28 := ⟨Tryz.f167.name, by decide, Tryz.func167.trans (congrArg some (by kernel_rfl))⟩
  f29 := ⟨Tryz.f168.name, by decide, Tryz.func168.trans (congrArg some (by kernel_rfl))⟩
  f31 := Tryz.func182.trans (congrArg some (by kernel_rfl))
  f32 := Tryz.func183.trans (congrArg some (by kernel_rfl))
  f36 := ⟨Tryz.f187.name, by decide, Tryz.func187.trans (congrArg some (by kernel_rfl))⟩
  f37 := ⟨Tryz.f188.name, by decide, Tryz.func188.trans (congrArg some (by kernel_rfl))⟩
  f38 := ⟨Tryz.f189.name, by decide, Tryz.func189.trans (congrArg some (by kernel_rfl))⟩
  f39 := ⟨Tryz.f190.name, by decide, Tryz.func190.trans (congrArg some (by kernel_rfl))⟩
  f41 := ⟨Tryz.f199.name, by decide, Tryz.func199.trans (congrArg some (by kernel_rfl))⟩
  t0 := Tryz.underlying0
  a0 := Tryz.isAgg0
  z0 := Tryz.sizeOf0
  v0 := Tryz.zeroValue0
  t3 := Tryz.underlying3
  a3 := Tryz.isAgg3
  z3 := Tryz.sizeOf3
  v3 := Tryz.zeroValue3
  t4 := Tryz.underlying4
  a4 := Tryz.isAgg4
  z4 := Tryz.sizeOf4
  v4 := Tryz.zeroValue4
  t5 := Tryz.underlying5
  a5 := Tryz.isAgg5
  z5 := Tryz.sizeOf5
  v5 := Tryz.zeroValue5
  t9 := Tryz.underlying9
  a9 := Tryz.isAgg9
  z9 := Tryz.sizeOf9
  v9 := Tryz.zeroValue9
  t26 := Tryz.underlying26
  a26 := Tryz.isAgg26
  z26 := Tryz.sizeOf26
  v26 := Tryz.zeroValue26
  t27 := Tryz.underlying26
  a27 := Tryz.isAgg26
  z27 := Tryz.sizeOf26
  v27 := Tryz.zeroValue26
  t29 := Tryz.underlying9
  a29 := Tryz.isAgg9
  z29 := Tryz.sizeOf9
  v29 := Tryz.zeroValue9
  t32 := Tryz.underlying200
  a32 := Tryz.isAgg200
  z32 := Tryz.sizeOf200
  v32 := Tryz.zeroValue200
  t35 := Tryz.underlying213
  a35 := Tryz.isAgg213
  z35 := Tryz.sizeOf213
  v35 := Tryz.zeroValue213
  t36 := Tryz.underlying214
  a36 := Tryz.isAgg214
  z36 := Tryz.sizeOf214
  v36 := Tryz.zeroValue214
  t41 := Tryz.underlying218
  a41 := Tryz.isAgg218
  z41 := Tryz.sizeOf218
  v41 := Tryz.zeroValue218
  t44 := Tryz.underlying221
  a44 := Tryz.isAgg221
  z44 := Tryz.sizeOf221
  v44 := Tryz.zeroValue221
  t46 := Tryz.underlying223
  a46 := Tryz.isAgg223
  z46 := Tryz.sizeOf223
  v46 := Tryz.zeroValue223
  t53 := Tryz.underlying237
  a53 := Tryz.isAgg237
  z53 := Tryz.sizeOf237
  v53 := Tryz.zeroValue237
  t57 := Tryz.underlying241
  a57 := Tryz.isAgg241
  z57 := Tryz.sizeOf241
  v57 := Tryz.zeroValue241
  t63 := Tryz.underlying250
  a63 := Tryz.isAgg250
  z63 := Tryz.sizeOf250
  v63 := Tryz.zeroValue250
  t64 := Tryz.underlying70
  a64 := Tryz.isAgg70
  z64 := Tryz.sizeOf70
  v64 := Tryz.zeroValue70 }
end Go.Proofs
