/-
  DERIVED: THE SHELF's CONTRACTS AT THIS DUMP, IN PLAIN WORDS (tools/lay-plain.mjs out of 'SrcYtjmbilbkmcebeaaDoorSortF.lean', which tools/lay-shelf.mjs wrote): THE SAME DECLARATIONS UNDER THE SAME NAMES: 'import', 'namespace', 'open', 'def', 'theorem' AND NOTHING ELSE: no command of the shelf's: FOR A HAND-IN. Each laying: the table of numbers ('.._ren') and one theorem, a field a fact of the dump's own or the kernel's comparison; each contract: ONE APPLICATION.
-/
import Derived.Shelf.SlSortCmp.WholeK
import Derived.Shelf.SlSortCmp.NoneTotal
import Derived.Ground.SlsfProg
import Derived.Test.YtjmbilbkmcebeaaDoorProg
namespace Go.Proofs
open Go.Shelf
def Tryd.sortCells_ren : Go.Shelf.Ren := ⟨fun | 6 => 53 | 15 => 81 | 14 => 80 | 28 => 110 | 29 => 111 | 20 => 102 | 21 => 103 | 22 => 104 | 23 => 105 | 24 => 106 | 25 => 107 | 26 => 108 | 27 => 109 | 46 => 128 | 47 => 129 | 48 => 130 | 49 => 131 | 50 => 132 | 57 => 143 | n => n, fun | 22 => 41 | 24 => 39 | 25 => 112 | 3 => 3 | 39 => 142 | 0 => 0 | 53 => 174 | 55 => 176 | 4 => 4 | 46 => 167 | 45 => 166 | 50 => 171 | 5 => 5 | 9 => 9 | 66 => 188 | 70 => 192 | 76 => 201 | 77 => 202 | n => n, fun | n => n⟩
theorem Tryd.sortCells : Go.Proofs.SlLaysF0.n6 Tryd.prog Tryd.sortCells_ren := {
  mixed := by kernel_rfl
  f6 := ⟨Tryd.f53.name, by decide, Tryd.func53.trans (congrArg some (by kernel_rfl))⟩
  f14 := ⟨Tryd.f80.name, by decide, Tryd.func80.trans (congrArg some (by kernel_rfl))⟩
  f15 := Tryd.func81.trans (congrArg some (by kernel_rfl))
  f20 := ⟨Tryd.f102.name, by decide, Tryd.func102.trans (congrArg some (by kernel_rfl))⟩
  f21 := ⟨Tryd.f103.name, by decide, Tryd.func103.trans (congrArg some (by kernel_rfl))⟩
  f22 := ⟨Tryd.f104.name, by decide, Tryd.func104.trans (congrArg some (by kernel_rfl))⟩
  f23 := ⟨Tryd.f105.name, by decide, Tryd.func105.trans (congrArg some (by kernel_rfl))⟩
  f24 := ⟨Tryd.f106.name, by decide, Tryd.func106.trans (congrArg some (by kernel_rfl))⟩
  f25 := ⟨Tryd.f107.name, by decide, Tryd.func107.trans (congrArg some (by kernel_rfl))⟩
  f26 := ⟨Tryd.f108.name, by decide, Tryd.func108.trans (congrArg some (by kernel_rfl))⟩
  f27 := ⟨Tryd.f109.name, by decide, Tryd.func109.trans (congrArg some (by kernel_rfl))⟩
  f28 := Tryd.func110.trans (congrArg some (by kernel_rfl))
  f29 := Tryd.func111.trans (congrArg some (by kernel_rfl))
  f46 := ⟨Tryd.f128.name, by decide, Tryd.func128.trans (congrArg some (by kernel_rfl))⟩
  f47 := Tryd.func129.trans (congrArg some (by kernel_rfl))
  f48 := Tryd.func130.trans (congrArg some (by kernel_rfl))
  f49 := ⟨Tryd.f131.name, by decide, Tryd.func131.trans (congrArg some (by kernel_rfl))⟩
  f50 := ⟨Tryd.f132.name, by decide, Tryd.func132.trans (congrArg some (by kernel_rfl))⟩
  f57 := ⟨Tryd.f143.name, by decide, Tryd.func143.trans (congrArg some (by kernel_rfl))⟩
  t0 := Tryd.underlying0
  a0 := Tryd.isAgg0
  z0 := Tryd.sizeOf0
  v0 := Tryd.zeroValue0
  t3 := Tryd.underlying3
  a3 := Tryd.isAgg3
  z3 := Tryd.sizeOf3
  v3 := Tryd.zeroValue3
  t4 := Tryd.underlying4
  a4 := Tryd.isAgg4
  z4 := Tryd.sizeOf4
  v4 := Tryd.zeroValue4
  t5 := Tryd.underlying5
  a5 := Tryd.isAgg5
  z5 := Tryd.sizeOf5
  v5 := Tryd.zeroValue5
  t9 := Tryd.underlying9
  a9 := Tryd.isAgg9
  z9 := Tryd.sizeOf9
  v9 := Tryd.zeroValue9
  t22 := Tryd.underlying41
  a22 := Tryd.isAgg41
  z22 := Tryd.sizeOf41
  v22 := Tryd.zeroValue41
  t25 := Tryd.underlying112
  a25 := Tryd.isAgg112
  z25 := Tryd.sizeOf112
  v25 := Tryd.zeroValue112
  t39 := Tryd.underlying142
  a39 := Tryd.isAgg142
  z39 := Tryd.sizeOf142
  v39 := Tryd.zeroValue142
  t45 := Tryd.underlying166
  a45 := Tryd.isAgg166
  z45 := Tryd.sizeOf166
  v45 := Tryd.zeroValue166
  t46 := Tryd.underlying167
  a46 := Tryd.isAgg167
  z46 := Tryd.sizeOf167
  v46 := Tryd.zeroValue167
  t50 := Tryd.underlying171
  a50 := Tryd.isAgg171
  z50 := Tryd.sizeOf171
  v50 := Tryd.zeroValue171
  t53 := Tryd.underlying174
  a53 := Tryd.isAgg174
  z53 := Tryd.sizeOf174
  v53 := Tryd.zeroValue174
  t55 := Tryd.underlying176
  a55 := Tryd.isAgg176
  z55 := Tryd.sizeOf176
  v55 := Tryd.zeroValue176
  t66 := Tryd.underlying188
  a66 := Tryd.isAgg188
  z66 := Tryd.sizeOf188
  v66 := Tryd.zeroValue188
  t70 := Tryd.underlying192
  a70 := Tryd.isAgg192
  z70 := Tryd.sizeOf192
  v70 := Tryd.zeroValue192
  t76 := Tryd.underlying201
  a76 := Tryd.isAgg201
  z76 := Tryd.sizeOf201
  v76 := Tryd.zeroValue201
  t77 := Tryd.underlying202
  a77 := Tryd.isAgg202
  z77 := Tryd.sizeOf202
  v77 := Tryd.zeroValue202 }
end Go.Proofs
