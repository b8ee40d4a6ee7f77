/-
  DERIVED: THE SHELF's CONTRACTS AT THIS DUMP, IN PLAIN WORDS (tools/lay-plain.mjs out of 'SrcYtjmbilbkmcebeaaDoorShelfS.lean', which tools/lay-shelf.mjs wrote): THE SAME DECLARATIONS UNDER THE SAME NAMES: 'import', 'namespace', 'open', 'def', 'theorem' AND NOTHING ELSE: no command of the shelf's: FOR A HAND-IN. Each laying: the table of numbers ('.._ren') and one theorem, a field a fact of the dump's own or the kernel's comparison; each contract: ONE APPLICATION.
-/
import Derived.Shelf.Strings.Search1
import Derived.Shelf.Strings.Search2
import Derived.Shelf.Strings.Search3
import Derived.Shelf.LaysM
import Derived.Shelf.Strings.Shaped
import Derived.Test.YtjmbilbkmcebeaaDoorProg
namespace Go.Proofs
open Go.Shelf
def Tryd.lays144_ren : Go.Shelf.Ren := ⟨fun | 144 => 60 | 143 => 84 | 219 => 121 | 217 => 136 | 225 => 137 | 224 => 138 | 267 => 139 | 266 => 145 | 314 => 146 | n => n, fun | 9 => 9 | 4 => 4 | 3 => 3 | 5 => 5 | 46 => 142 | 146 => 205 | 51 => 174 | n => n, fun | 1 => 12 | n => n⟩
theorem Tryd.lays144 : Go.Proofs.Lays.n144 Tryd.prog Tryd.lays144_ren := {
  mixed := by kernel_rfl
  f143 := Tryd.func84.trans (congrArg some (by kernel_rfl))
  f144 := Tryd.func60.trans (congrArg some (by kernel_rfl))
  f217 := Tryd.func136.trans (congrArg some (by kernel_rfl))
  f219 := Tryd.func121.trans (congrArg some (by kernel_rfl))
  f224 := Tryd.func138.trans (congrArg some (by kernel_rfl))
  f225 := Tryd.func137.trans (congrArg some (by kernel_rfl))
  f266 := Tryd.func145.trans (congrArg some (by kernel_rfl))
  f267 := Tryd.func139.trans (congrArg some (by kernel_rfl))
  f314 := Tryd.func146.trans (congrArg some (by kernel_rfl))
  t3 := Tryd.underlying3
  a3 := Tryd.isAgg3
  z3 := Tryd.sizeOf3
  v3 := Tryd.zeroValue3
  t4 := Tryd.underlying4
  a4 := Tryd.isAgg4
  z4 := Tryd.sizeOf4
  v4 := Tryd.zeroValue4
  t5 := Tryd.underlying5
  a5 := Tryd.isAgg5
  z5 := Tryd.sizeOf5
  v5 := Tryd.zeroValue5
  t9 := Tryd.underlying9
  a9 := Tryd.isAgg9
  z9 := Tryd.sizeOf9
  v9 := Tryd.zeroValue9
  t46 := Tryd.underlying142
  a46 := Tryd.isAgg142
  z46 := Tryd.sizeOf142
  v46 := Tryd.zeroValue142
  t51 := Tryd.underlying174
  a51 := Tryd.isAgg174
  z51 := Tryd.sizeOf174
  v51 := Tryd.zeroValue174
  t146 := Tryd.underlying205
  a146 := Tryd.isAgg205
  z146 := Tryd.sizeOf205
  v146 := Tryd.zeroValue205
  g1 := by kernel_rfl }
open Go.RowKit Go.Lib in
theorem Tryd.strings_Contains_one (s : ByteArray) (c : UInt8) (w : World) :
    Calls Tryd.prog 60 #[.string s, .string ⟨#[c]⟩] w fun e w' => e = .returned (.bool (decide (0 ≤ Lib.indexByte s.data.toList c))) ∧ w' = w := Any.strings_Contains_one Tryd.lays144 s c w
end Go.Proofs
