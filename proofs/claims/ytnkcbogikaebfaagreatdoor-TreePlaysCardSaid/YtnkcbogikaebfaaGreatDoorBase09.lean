/- Merged texts: Body. -/
import Derived.Test.YtnkcbogikaebfaaGreatDoorBase08
import Derived.Test.YtnkcbogikaebfaaGreatDoorBase04
import Derived.Test.YtnkcbogikaebfaaGreatDoorBase03
import Derived.StillTailTactics
import Derived.Outline
import Derived.Deep.QuietTactic
import Derived.BigQuiet
import Derived.WalkSpells
section
/- The walks of package body over a body that is a function of its cells: New, Has, Get. -/
namespace Go.Proofs.YtnkcbogikaebfaaGreatDoor
open Go Go.RowKit
set_option maxRecDepth 100000
set_option linter.unusedSimpArgs false
attribute [local go_sem] giv
variable {E : Nat → Addr} {B : Nat}

/-- What a block's value holds: bytes, or nothing: it is lost. Its block is no one of M. -/
def Blk (w : World) (M : Nat → Prop) (v : Value) (o : Option (List Int)) : Prop :=
  (v = .slice none 0 0 ∧ o = none) ∨ ∃ h l, v = .slice (some ⟨h, 0, none⟩) 256 256 ∧ o = some l ∧ l.length = 256 ∧ Row w h 5 (l.map (Value.int .u8)) ∧ ¬ M h

section
variable {w w' : World} {M S : Nat → Prop} {b m d : Nat} {g : Cl → Option (Option (List Int))} {gd : Cl → Option Int} {n k : Nat}
end

theorem drewN_below (w : World) (q : Nat) : Below w.heap.size w (w.drewN q) := ⟨rfl, rfl, rfl, Nat.le_refl _, fun _ _ => rfl⟩

end Go.Proofs.YtnkcbogikaebfaaGreatDoor
end
