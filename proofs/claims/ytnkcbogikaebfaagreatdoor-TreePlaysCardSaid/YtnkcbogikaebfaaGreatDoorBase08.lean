/- Merged texts: Cell. -/
import Derived.Test.YtnkcbogikaebfaaGreatDoorBase02
import Derived.Test.YtnkcbogikaebfaaGreatDoorBase06
import Derived.DeepKeys4
section
/- Keys that are structs of two ints (api.Cell): the kit's bundle, and that each is a key. -/
namespace Go.Proofs.YtnkcbogikaebfaaGreatDoor
open Go Go.RowKit
set_option maxRecDepth 100000

/-- A cell. -/
abbrev Cl := Int × Int
def encC (c : Cl) : Value := .agg #[.int .i64 c.1, .int .i64 c.2]
def In64 (a : Int) : Prop := -9223372036854775808 ≤ a ∧ a ≤ 9223372036854775807
end Go.Proofs.YtnkcbogikaebfaaGreatDoor
end
