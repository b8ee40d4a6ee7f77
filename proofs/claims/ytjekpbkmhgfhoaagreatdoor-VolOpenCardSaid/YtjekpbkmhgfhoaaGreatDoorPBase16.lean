/- Merged texts: Ents. -/
import Derived.Test.YtjekpbkmhgfhoaaGreatDoorPBase09
import Derived.Test.YtjekpbkmhgfhoaaGreatDoorPBase11
import Derived.Test.YtjekpbkmhgfhoaaGreatDoorPBase15
import Derived.Deep.RegionHeld3
section
/- Slices of entries: the reference's SameEntry, SameEntrys, Entrys. -/
namespace Go.Proofs.YtjekpbkmhgfhoaaGreatDoor
open Go Go.RowKit
set_option maxRecDepth 100000
set_option linter.unusedSimpArgs false
attribute [local go_sem] giv
variable {E : Nat → Addr} {B : Nat}

instance : DecidableEq En := fun a b => decidable_of_iff (a.name = b.name ∧ a.node = b.node ∧ a.kind = b.kind) ⟨fun ⟨h1, h2, h3⟩ => by cases a; cases b; simp_all, fun h => by subst h; exact ⟨rfl, rfl, rfl⟩⟩
def encEl (e : En) : List Value := [.string e.name, .int .i64 e.node, .int .i64 e.kind]
abbrev RdEn (w : World) (v : Value) (xs : List En) : Prop := RdE w 3 encEl v xs
abbrev SlEn (w : World) (base : Nat) (v : Value) (xs : List En) : Prop := SlE w base 51 3 encEl v xs

end Go.Proofs.YtjekpbkmhgfhoaaGreatDoor
end
