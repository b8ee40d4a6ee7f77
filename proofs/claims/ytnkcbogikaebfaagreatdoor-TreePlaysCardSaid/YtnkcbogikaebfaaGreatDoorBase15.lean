/- Merged texts: Args. -/
import Derived.Test.YtnkcbogikaebfaaGreatDoorBase10
import Derived.OpenShut
import Derived.ChangeSlices
import Derived.Carry
section
/- An argument that is a slice of bytes: what its reading gives. -/
namespace Go.Proofs.YtnkcbogikaebfaaGreatDoor
open Go Go.RowKit Go.ChangeShapes Go.WideShapes
set_option maxRecDepth 100000

end Go.Proofs.YtnkcbogikaebfaaGreatDoor
end
