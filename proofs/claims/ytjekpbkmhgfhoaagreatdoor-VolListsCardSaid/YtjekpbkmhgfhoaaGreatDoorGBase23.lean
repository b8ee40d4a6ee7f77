/- Merged texts: Values. -/
import Derived.Test.YtjekpbkmhgfhoaaGreatDoorGBase12
import Derived.RangeFuncBox
import Derived.RangeFuncLeaves
import Derived.Shelf.Abstract
import Derived.WalkKit
import Derived.OwnWalkIn
import Derived.TacticsInMore
import Derived.LoopNIn
import Derived.LoopIn
import Derived.Maps.AppendAt
section
/- slices.Values over a slice of strings; what slices.Sorted makes of it. -/
namespace Go.Proofs.YtjekpbkmhgfhoaaGreatDoor
open Go Go.RowKit Go.Shelf Go.Sort
open Go.Proofs (encStr)
set_option maxRecDepth 100000
set_option linter.unusedSimpArgs false
attribute [local go_sem] Oper.semAt_some

/-- A list of texts sorted. -/
def sortL (ks : List ByteArray) : List ByteArray := ((ks.map (·.data.toList)).mergeSort fun x y => decide (x ≤ y)).map nmOf
end Go.Proofs.YtjekpbkmhgfhoaaGreatDoor
end
