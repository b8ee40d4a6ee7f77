/- Merged texts: Values. -/
import Derived.Test.YtjmbilbkmcebeaaDoorBase09
import Derived.RangeFuncBox
import Derived.RangeFuncLeaves
import Derived.Shelf.Abstract
import Derived.WalkKit
import Derived.OwnWalkIn
import Derived.TacticsInMore
import Derived.LoopNIn
import Derived.LoopIn
import Derived.Maps.AppendAt
section
/- slices.Values over a slice of strings; what slices.Sorted makes of it. -/
namespace Go.Proofs.YtjmbilbkmcebeaaDoor
open Go Go.RowKit Go.Shelf Go.Sort
open Go.Proofs (encStr)
set_option maxRecDepth 100000
set_option linter.unusedSimpArgs false
attribute [local go_sem] Oper.semAt_some

theorem str_inf : (Tryd.prog.info? 9).map (fun i => (i.zero, i.size, i.bytes)) = some (some (.string ⟨#[]⟩), 1, 16) := by kernel_rfl

/-- A list of texts sorted. -/
def sortL (ks : List ByteArray) : List ByteArray := ((ks.map (·.data.toList)).mergeSort fun x y => decide (x ≤ y)).map nmOf
theorem sortL_len (ks : List ByteArray) : (sortL ks).length = ks.length := by simp [sortL, List.length_mergeSort]

end Go.Proofs.YtjmbilbkmcebeaaDoor
end
