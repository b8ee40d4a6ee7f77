/-
  DERIVED: THE SHELF's CONTRACTS AT THIS DUMP, IN PLAIN WORDS (tools/lay-plain.mjs out of 'SrcYthominkfjfnkbaaDoorItoaS.lean', which tools/lay-shelf.mjs wrote): THE SAME DECLARATIONS UNDER THE SAME NAMES: 'import', 'namespace', 'open', 'def', 'theorem' AND NOTHING ELSE: no command of the shelf's: FOR A HAND-IN. Each laying: the table of numbers ('.._ren') and one theorem, a field a fact of the dump's own or the kernel's comparison; each contract: ONE APPLICATION.
-/
import Derived.Shelf.LaysM
import Derived.Shelf.Strconv.Itoa3
import Derived.Test.YthominkfjfnkbaaDoorProg
namespace Go.Proofs
open Go.Shelf
def Tryd.lays171_ren : Go.Shelf.Ren := ⟨fun | 171 => 106 | 243 => 127 | 246 => 143 | 283 => 179 | 284 => 180 | 285 => 181 | 286 => 182 | 129 => 155 | 317 => 196 | 318 => 197 | 319 => 198 | 320 => 199 | 337 => 203 | 338 => 204 | n => n, fun | 3 => 3 | 9 => 9 | 2 => 2 | 4 => 4 | 171 => 215 | 0 => 0 | 53 => 199 | 37 => 50 | 5 => 5 | 173 => 217 | 212 => 232 | 51 => 197 | 20 => 20 | 213 => 233 | 46 => 170 | 232 => 239 | 233 => 240 | n => n, fun | 17 => 25 | 18 => 26 | 19 => 27 | n => n⟩
theorem Tryd.lays171 : Go.Proofs.Lays.n171 Tryd.prog Tryd.lays171_ren := {
  mixed := by kernel_rfl
  f129 := Tryd.func155.trans (congrArg some (by kernel_rfl))
  f171 := Tryd.func106.trans (congrArg some (by kernel_rfl))
  f243 := Tryd.func127.trans (congrArg some (by kernel_rfl))
  f246 := Tryd.func143.trans (congrArg some (by kernel_rfl))
  f283 := Tryd.func179.trans (congrArg some (by kernel_rfl))
  f284 := Tryd.func180.trans (congrArg some (by kernel_rfl))
  f285 := Tryd.func181.trans (congrArg some (by kernel_rfl))
  f286 := Tryd.func182.trans (congrArg some (by kernel_rfl))
  f317 := Tryd.func196.trans (congrArg some (by kernel_rfl))
  f318 := Tryd.func197.trans (congrArg some (by kernel_rfl))
  f319 := Tryd.func198.trans (congrArg some (by kernel_rfl))
  f320 := Tryd.func199.trans (congrArg some (by kernel_rfl))
  f337 := Tryd.func203.trans (congrArg some (by kernel_rfl))
  f338 := Tryd.func204.trans (congrArg some (by kernel_rfl))
  t0 := Tryd.underlying0
  a0 := Tryd.isAgg0
  z0 := Tryd.sizeOf0
  v0 := Tryd.zeroValue0
  t2 := Tryd.underlying2
  a2 := Tryd.isAgg2
  z2 := Tryd.sizeOf2
  v2 := Tryd.zeroValue2
  t3 := Tryd.underlying3
  a3 := Tryd.isAgg3
  z3 := Tryd.sizeOf3
  v3 := Tryd.zeroValue3
  t4 := Tryd.underlying4
  a4 := Tryd.isAgg4
  z4 := Tryd.sizeOf4
  v4 := Tryd.zeroValue4
  t5 := Tryd.underlying5
  a5 := Tryd.isAgg5
  z5 := Tryd.sizeOf5
  v5 := Tryd.zeroValue5
  t9 := Tryd.underlying9
  a9 := Tryd.isAgg9
  z9 := Tryd.sizeOf9
  v9 := Tryd.zeroValue9
  t20 := Tryd.underlying20
  a20 := Tryd.isAgg20
  z20 := Tryd.sizeOf20
  v20 := Tryd.zeroValue20
  t37 := Tryd.underlying50
  a37 := Tryd.isAgg50
  z37 := Tryd.sizeOf50
  v37 := Tryd.zeroValue50
  t46 := Tryd.underlying170
  a46 := Tryd.isAgg170
  z46 := Tryd.sizeOf170
  v46 := Tryd.zeroValue170
  t51 := Tryd.underlying197
  a51 := Tryd.isAgg197
  z51 := Tryd.sizeOf197
  v51 := Tryd.zeroValue197
  t53 := Tryd.underlying199
  a53 := Tryd.isAgg199
  z53 := Tryd.sizeOf199
  v53 := Tryd.zeroValue199
  t171 := Tryd.underlying215
  a171 := Tryd.isAgg215
  z171 := Tryd.sizeOf215
  v171 := Tryd.zeroValue215
  t173 := Tryd.underlying217
  a173 := Tryd.isAgg217
  z173 := Tryd.sizeOf217
  v173 := Tryd.zeroValue217
  t212 := Tryd.underlying232
  a212 := Tryd.isAgg232
  z212 := Tryd.sizeOf232
  v212 := Tryd.zeroValue232
  t213 := Tryd.underlying233
  a213 := Tryd.isAgg233
  z213 := Tryd.sizeOf233
  t232 := Tryd.underlying239
  a232 := Tryd.isAgg239
  z232 := Tryd.sizeOf239
  v232 := Tryd.zeroValue239
  t233 := Tryd.underlying240
  a233 := Tryd.isAgg240
  z233 := Tryd.sizeOf240
  v233 := Tryd.zeroValue240
  g17 := by kernel_rfl
  g18 := by kernel_rfl
  g19 := by kernel_rfl }
open Go.RowKit Go.Lib in
theorem Tryd.strconv_Itoa_small (i : Nat) (hi : i < 100) (w : World) :
    Calls Tryd.prog 106 #[.int .i64 i] w fun e w' => e = .returned (.string ⟨(Lib.decDigits i).toArray⟩) ∧ w' = w := Any.strconv_Itoa_small Tryd.lays171 i hi w
end Go.Proofs
