/-
  DERIVED: THE SHELF's CONTRACTS AT THIS DUMP, IN PLAIN WORDS (tools/lay-plain.mjs out of 'SrcYthominkfjfnkbaaDoorSortS.lean', which tools/lay-shelf.mjs wrote): THE SAME DECLARATIONS UNDER THE SAME NAMES: 'import', 'namespace', 'open', 'def', 'theorem' AND NOTHING ELSE: no command of the shelf's: FOR A HAND-IN. Each laying: the table of numbers ('.._ren') and one theorem, a field a fact of the dump's own or the kernel's comparison; each contract: ONE APPLICATION.
-/
import Derived.Shelf.Slices.CompactS
import Derived.Shelf.Spec.SearchS
import Derived.Shelf.Slices.Clone
import Derived.Ground.NamesProg
import Derived.Ground.Names2Prog
import Derived.Test.YthominkfjfnkbaaDoorProg
namespace Go.Proofs
open Go.Shelf
def Tryd.lays194_ren : Go.Shelf.Ren := ⟨fun | 194 => 97 | n => n, fun | 31 => 92 | 9 => 9 | 3 => 3 | 4 => 4 | 0 => 0 | n => n, fun | n => n⟩
theorem Tryd.lays194 : Go.Proofs.Lays.n194 Tryd.prog Tryd.lays194_ren := {
  mixed := by kernel_rfl
  f194 := Tryd.func97.trans (congrArg some (by kernel_rfl))
  t0 := Tryd.underlying0
  a0 := Tryd.isAgg0
  z0 := Tryd.sizeOf0
  v0 := Tryd.zeroValue0
  t3 := Tryd.underlying3
  a3 := Tryd.isAgg3
  z3 := Tryd.sizeOf3
  v3 := Tryd.zeroValue3
  t4 := Tryd.underlying4
  a4 := Tryd.isAgg4
  z4 := Tryd.sizeOf4
  v4 := Tryd.zeroValue4
  t9 := Tryd.underlying9
  a9 := Tryd.isAgg9
  z9 := Tryd.sizeOf9
  v9 := Tryd.zeroValue9
  t31 := Tryd.underlying92
  a31 := Tryd.isAgg92
  z31 := Tryd.sizeOf92
  v31 := Tryd.zeroValue92 }
def Tryd.lays226_ren : Go.Shelf.Ren := ⟨fun | 26 => 99 | 33 => 124 | 34 => 125 | 38 => 142 | n => n, fun | 24 => 92 | 9 => 9 | 3 => 3 | 4 => 4 | 40 => 170 | 0 => 0 | n => n, fun | n => n⟩
theorem Tryd.lays226 : Go.Proofs.Lays2.n26 Tryd.prog Tryd.lays226_ren := {
  mixed := by kernel_rfl
  f26 := Tryd.func99.trans (congrArg some (by kernel_rfl))
  f33 := Tryd.func124.trans (congrArg some (by kernel_rfl))
  f34 := Tryd.func125.trans (congrArg some (by kernel_rfl))
  f38 := Tryd.func142.trans (congrArg some (by kernel_rfl))
  t0 := Tryd.underlying0
  a0 := Tryd.isAgg0
  z0 := Tryd.sizeOf0
  v0 := Tryd.zeroValue0
  t3 := Tryd.underlying3
  a3 := Tryd.isAgg3
  z3 := Tryd.sizeOf3
  v3 := Tryd.zeroValue3
  t4 := Tryd.underlying4
  a4 := Tryd.isAgg4
  z4 := Tryd.sizeOf4
  v4 := Tryd.zeroValue4
  t9 := Tryd.underlying9
  a9 := Tryd.isAgg9
  z9 := Tryd.sizeOf9
  v9 := Tryd.zeroValue9
  t24 := Tryd.underlying92
  a24 := Tryd.isAgg92
  z24 := Tryd.sizeOf92
  v24 := Tryd.zeroValue92
  t40 := Tryd.underlying170
  a40 := Tryd.isAgg170
  z40 := Tryd.sizeOf170
  v40 := Tryd.zeroValue170 }
def Tryd.lays216_ren : Go.Shelf.Ren := ⟨fun | 16 => 100 | n => n, fun | 24 => 92 | 9 => 9 | 4 => 4 | n => n, fun | n => n⟩
theorem Tryd.lays216 : Go.Proofs.Lays2.n16 Tryd.prog Tryd.lays216_ren := {
  mixed := by kernel_rfl
  f16 := Tryd.func100.trans (congrArg some (by kernel_rfl))
  t4 := Tryd.underlying4
  a4 := Tryd.isAgg4
  z4 := Tryd.sizeOf4
  v4 := Tryd.zeroValue4
  t9 := Tryd.underlying9
  a9 := Tryd.isAgg9
  z9 := Tryd.sizeOf9
  v9 := Tryd.zeroValue9
  t24 := Tryd.underlying92
  a24 := Tryd.isAgg92
  z24 := Tryd.sizeOf92
  v24 := Tryd.zeroValue92
  i9 := by kernel_rfl }
end Go.Proofs
