/- Merged texts: LaidTab. -/
import Derived.Test.YtjekpbkmhgfhoaaGreatDoorGBase26
import Derived.Lib.LaidTab
import Derived.Lib.AppendIntMem
section
/- A table of integers among the laid variables of a row. -/
namespace Go.Proofs.YtjekpbkmhgfhoaaGreatDoor
open Go Go.RowKit Go.ChangeShapes
set_option maxRecDepth 100000
theorem tab_of_laid (k : Nat) {W : World} {xs rest : List (String × DataW Unit)} (h : laidMetH Tryz.prog xs W) (hp : xs.all (fun x => x.2.handleName?.isNone) = true) (hx : xs.drop k = ("internal/strconv.uint64pow10", Lib.tabData .u64 Lib.pow10Tab) :: rest) :
    Lib.TabIs Tryz.prog W "internal/strconv.uint64pow10" .u64 Lib.pow10Tab := by
  rw [MakeChecks.laidMetH_plain _ _ _ hp] at h
  obtain ⟨ps0, hl0, hnd0, hrows0⟩ := h
  obtain ⟨ps1, hl1, hsub1⟩ := laid_drop k xs ps0 hl0
  rw [hx] at hl1
  exact Lib.tabIs_of_head (g := 24) (t := 257) (e := 228) (n := 20) (by kernel_rfl) (by kernel_rfl) Tryz.underlying257 Tryz.underlying228 (by kernel_rfl) (by kernel_rfl) ⟨ps1, hl1, hnd0.sublist hsub1, fun b off hm => hrows0 b off (hsub1.subset hm)⟩
end Go.Proofs.YtjekpbkmhgfhoaaGreatDoor
end
