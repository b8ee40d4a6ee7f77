/- Merged texts: NameLaw. -/
import Derived.Test.YtjekpbkmhgfhoaaGreatDoorPBase07
import Derived.Lib.SlicesCompact
import Derived.Shelf.Spec.SearchS
import Derived.Sort.Walk0
section
/- Lists of texts that rise: sorted and made single; those behind one. -/
namespace Go.Proofs.YtjekpbkmhgfhoaaGreatDoor
open Go Go.Lib
set_option maxRecDepth 100000

section
variable {zs : List (List UInt8)}
end

/-- Texts sorted, each once. -/
def nmSortL (ks : List ByteArray) : List ByteArray := (Lib.compact ((ks.map (·.data.toList)).mergeSort fun x y => decide (x ≤ y))).map nmOf
/-- Those behind a text. -/
def behindL (ks : List ByteArray) (s : ByteArray) : List ByteArray := ks.filter fun k => decide (s.data.toList < k.data.toList)
/-- How many are ahead of a text. -/
def aheadN (ks : List ByteArray) (s : ByteArray) : Nat := (ks.filter fun k => decide (k.data.toList < s.data.toList)).length
end Go.Proofs.YtjekpbkmhgfhoaaGreatDoor
end
