/- Merged texts: DirAll. -/
import Derived.Test.YtjekpbkmhgfhoaaGreatDoorIterS
import Derived.Test.YtjekpbkmhgfhoaaGreatDoorPBase07
import Derived.Test.YtjekpbkmhgfhoaaGreatDoorPBase09
import Derived.Test.YtjekpbkmhgfhoaaGreatDoorPBase11
section
/- The names of a directory, rising: slices.Sorted(maps.Keys(m)) by the kit's contracts. -/
namespace Go.Proofs.YtjekpbkmhgfhoaaGreatDoor
open Go Go.RowKit Go.Maps Go.Sort
open Go.Proofs (encStr)
set_option maxRecDepth 100000
set_option linter.unusedSimpArgs false

def encS (s : ByteArray) : List Value := [.string s]
theorem flat_encS (ks : List ByteArray) : flat encS ks = ks.map Value.string := by
  induction ks with
  | nil => rfl
  | cons k ks ih => rw [flat_cons, ih]; rfl

end Go.Proofs.YtjekpbkmhgfhoaaGreatDoor
end
