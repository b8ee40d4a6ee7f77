/- Nothing of slices.Sorted at strings is reached in this seat. -/
import Derived.Shelf.Lay
import Derived.Shelf.LaySoft
import Derived.Shelf.SlIter.Nil
import Derived.Shelf.SlIter.Sorted
import Derived.Shelf.SortM.Plain
import Derived.Shelf.SortM.SortNone
import Derived.Ground.GgzProg
import Derived.Ground.SlgmProg
import Derived.Test.YthhipeceeagpnaaGreatDoorProg
