/-
  DERIVED: THE SHELF's CONTRACTS AT THIS DUMP, IN PLAIN WORDS (tools/lay-plain.mjs out of 'SrcYtjmbilbkmcebeaaDoorIterI.lean', which tools/lay-shelf.mjs wrote): THE SAME DECLARATIONS UNDER THE SAME NAMES: 'import', 'namespace', 'open', 'def', 'theorem' AND NOTHING ELSE: no command of the shelf's: FOR A HAND-IN. Each laying: the table of numbers ('.._ren') and one theorem, a field a fact of the dump's own or the kernel's comparison; each contract: ONE APPLICATION.
-/
import Derived.Shelf.SlIterI.Nil
import Derived.Shelf.SlIterI.Sorted
import Derived.Shelf.SortM.Plain
import Derived.Shelf.SortM.SortNone
import Derived.Ground.GgzProg
import Derived.Ground.SlgmProg
import Derived.Test.YtjmbilbkmcebeaaDoorProg
namespace Go.Proofs
open Go.Shelf
def Tryd.sortI_ren : Go.Shelf.Ren := ⟨fun | 5 => 54 | 8 => 81 | 7 => 82 | 19 => 110 | 20 => 111 | 10 => 112 | 11 => 113 | 12 => 114 | 13 => 115 | 14 => 116 | 15 => 117 | 16 => 118 | 17 => 119 | 18 => 120 | 30 => 133 | 31 => 129 | 32 => 130 | 33 => 134 | 34 => 135 | 35 => 101 | 40 => 144 | n => n, fun | 23 => 45 | 25 => 3 | 3 => 3 | 32 => 142 | 22 => 45 | 0 => 0 | 44 => 174 | 46 => 176 | 4 => 4 | 36 => 167 | 35 => 166 | 41 => 171 | 5 => 5 | 9 => 9 | 53 => 188 | 57 => 192 | 63 => 201 | 64 => 202 | n => n, fun | n => n⟩
theorem Tryd.sortI : Go.Proofs.SlLaysM.n5 Tryd.prog Tryd.sortI_ren := {
  mixed := by kernel_rfl
  f5 := ⟨Tryd.f54.name, by decide, Tryd.func54.trans (congrArg some (by kernel_rfl))⟩
  f7 := ⟨Tryd.f82.name, by decide, Tryd.func82.trans (congrArg some (by kernel_rfl))⟩
  f8 := Tryd.func81.trans (congrArg some (by kernel_rfl))
  f10 := ⟨Tryd.f112.name, by decide, Tryd.func112.trans (congrArg some (by kernel_rfl))⟩
  f11 := ⟨Tryd.f113.name, by decide, Tryd.func113.trans (congrArg some (by kernel_rfl))⟩
  f12 := ⟨Tryd.f114.name, by decide, Tryd.func114.trans (congrArg some (by kernel_rfl))⟩
  f13 := ⟨Tryd.f115.name, by decide, Tryd.func115.trans (congrArg some (by kernel_rfl))⟩
  f14 := ⟨Tryd.f116.name, by decide, Tryd.func116.trans (congrArg some (by kernel_rfl))⟩
  f15 := ⟨Tryd.f117.name, by decide, Tryd.func117.trans (congrArg some (by kernel_rfl))⟩
  f16 := ⟨Tryd.f118.name, by decide, Tryd.func118.trans (congrArg some (by kernel_rfl))⟩
  f17 := ⟨Tryd.f119.name, by decide, Tryd.func119.trans (congrArg some (by kernel_rfl))⟩
  f18 := ⟨Tryd.f120.name, by decide, Tryd.func120.trans (congrArg some (by kernel_rfl))⟩
  f19 := Tryd.func110.trans (congrArg some (by kernel_rfl))
  f20 := Tryd.func111.trans (congrArg some (by kernel_rfl))
  f30 := ⟨Tryd.f133.name, by decide, Tryd.func133.trans (congrArg some (by kernel_rfl))⟩
  f31 := Tryd.func129.trans (congrArg some (by kernel_rfl))
  f32 := Tryd.func130.trans (congrArg some (by kernel_rfl))
  f33 := ⟨Tryd.f134.name, by decide, Tryd.func134.trans (congrArg some (by kernel_rfl))⟩
  f34 := ⟨Tryd.f135.name, by decide, Tryd.func135.trans (congrArg some (by kernel_rfl))⟩
  f35 := ⟨Tryd.f101.name, by decide, Tryd.func101.trans (congrArg some (by kernel_rfl))⟩
  f40 := ⟨Tryd.f144.name, by decide, Tryd.func144.trans (congrArg some (by kernel_rfl))⟩
  t0 := Tryd.underlying0
  a0 := Tryd.isAgg0
  z0 := Tryd.sizeOf0
  v0 := Tryd.zeroValue0
  t3 := Tryd.underlying3
  a3 := Tryd.isAgg3
  z3 := Tryd.sizeOf3
  v3 := Tryd.zeroValue3
  t4 := Tryd.underlying4
  a4 := Tryd.isAgg4
  z4 := Tryd.sizeOf4
  v4 := Tryd.zeroValue4
  t5 := Tryd.underlying5
  a5 := Tryd.isAgg5
  z5 := Tryd.sizeOf5
  v5 := Tryd.zeroValue5
  t9 := Tryd.underlying9
  a9 := Tryd.isAgg9
  z9 := Tryd.sizeOf9
  v9 := Tryd.zeroValue9
  t22 := Tryd.underlying45
  a22 := Tryd.isAgg45
  z22 := Tryd.sizeOf45
  v22 := Tryd.zeroValue45
  t23 := Tryd.underlying45
  a23 := Tryd.isAgg45
  z23 := Tryd.sizeOf45
  v23 := Tryd.zeroValue45
  t25 := Tryd.underlying3
  a25 := Tryd.isAgg3
  z25 := Tryd.sizeOf3
  v25 := Tryd.zeroValue3
  t32 := Tryd.underlying142
  a32 := Tryd.isAgg142
  z32 := Tryd.sizeOf142
  v32 := Tryd.zeroValue142
  t35 := Tryd.underlying166
  a35 := Tryd.isAgg166
  z35 := Tryd.sizeOf166
  v35 := Tryd.zeroValue166
  t36 := Tryd.underlying167
  a36 := Tryd.isAgg167
  z36 := Tryd.sizeOf167
  v36 := Tryd.zeroValue167
  t41 := Tryd.underlying171
  a41 := Tryd.isAgg171
  z41 := Tryd.sizeOf171
  v41 := Tryd.zeroValue171
  t44 := Tryd.underlying174
  a44 := Tryd.isAgg174
  z44 := Tryd.sizeOf174
  v44 := Tryd.zeroValue174
  t46 := Tryd.underlying176
  a46 := Tryd.isAgg176
  z46 := Tryd.sizeOf176
  v46 := Tryd.zeroValue176
  t53 := Tryd.underlying188
  a53 := Tryd.isAgg188
  z53 := Tryd.sizeOf188
  v53 := Tryd.zeroValue188
  t57 := Tryd.underlying192
  a57 := Tryd.isAgg192
  z57 := Tryd.sizeOf192
  v57 := Tryd.zeroValue192
  t63 := Tryd.underlying201
  a63 := Tryd.isAgg201
  z63 := Tryd.sizeOf201
  v63 := Tryd.zeroValue201
  t64 := Tryd.underlying202
  a64 := Tryd.isAgg202
  z64 := Tryd.sizeOf202
  v64 := Tryd.zeroValue202 }
end Go.Proofs
