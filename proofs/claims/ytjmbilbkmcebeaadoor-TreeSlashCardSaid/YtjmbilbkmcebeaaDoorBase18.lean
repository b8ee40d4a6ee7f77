/- Merged texts: NodeClone. -/
import Derived.Test.YtjmbilbkmcebeaaDoorBase16
import Derived.Test.YtjmbilbkmcebeaaDoorBase05
import Derived.Test.YtjmbilbkmcebeaaDoorBase11
import Derived.Deep.RegionHeld3
import Derived.Shelf.SlMaps.Clone
section
/- The walks of package node: maps.Clone, Clone. -/
namespace Go.Proofs.YtjmbilbkmcebeaaDoor
open Go Go.RowKit
set_option maxRecDepth 100000
set_option linter.unusedSimpArgs false
attribute [local go_sem] giv
variable {E : Nat → Addr} {B : Nat}

end Go.Proofs.YtjmbilbkmcebeaaDoor
end
