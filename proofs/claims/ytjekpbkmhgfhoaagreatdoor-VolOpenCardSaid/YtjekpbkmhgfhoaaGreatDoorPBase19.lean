/- Merged texts: DirList DirLaw. -/
import Derived.Test.YtjekpbkmhgfhoaaGreatDoorPBase12
import Derived.Test.YtjekpbkmhgfhoaaGreatDoorPBase16
import Derived.Test.YtjekpbkmhgfhoaaGreatDoorPBase11
import Derived.Test.YtjekpbkmhgfhoaaGreatDoorPBase18
section
/- The walk of package dir: All. -/
namespace Go.Proofs.YtjekpbkmhgfhoaaGreatDoor
open Go Go.RowKit
set_option maxRecDepth 100000
set_option linter.unusedSimpArgs false
attribute [local go_sem] giv
variable {E : Nat → Addr} {B : Nat}

/-- The entries of names. -/
def entsOf (g : ByteArray → Option En) (ks : List ByteArray) : List En := ks.map fun k => (g k).getD noEn
end Go.Proofs.YtjekpbkmhgfhoaaGreatDoor
end

section
/- A law's own directory beside its own blocks; the law's first. -/
namespace Go.Proofs.YtjekpbkmhgfhoaaGreatDoor
open Go Go.RowKit
set_option maxRecDepth 100000
set_option linter.unusedSimpArgs false
attribute [local go_sem] giv
variable {E : Nat → Addr} {B : Nat}

/-- A law's own directory: its blocks are from B on and not among L. -/
def DB (B : Nat) (L : List Nat) (w : World) (b : Nat) (g : ByteArray → Option En) (n : Nat) : Prop :=
  B ≤ w.heap.size ∧ (∀ x ∈ L, x < w.heap.size) ∧ ∃ m, DirAt w b m g n ∧ ∀ x, OwnD b m x → B ≤ x ∧ x ∉ L

section
variable {L : List Nat} {w w' : World} {b n : Nat} {g : ByteArray → Option En}
end

theorem nmSpecial_eq (s : ByteArray) : nmSpecial s = (s.data.toList == [46] || s.data.toList == [46, 46]) := by
  unfold nmSpecial
  rw [ByteArray.toList_eq]

end Go.Proofs.YtjekpbkmhgfhoaaGreatDoor
end
