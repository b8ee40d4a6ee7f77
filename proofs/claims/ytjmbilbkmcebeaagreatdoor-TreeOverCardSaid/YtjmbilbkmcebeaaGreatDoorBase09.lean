/- Merged texts: Body. -/
import Derived.Test.YtjmbilbkmcebeaaGreatDoorBase08
import Derived.Test.YtjmbilbkmcebeaaGreatDoorBase04
import Derived.Test.YtjmbilbkmcebeaaGreatDoorBase03
import Derived.StillTailTactics
import Derived.Outline
import Derived.Deep.QuietTactic
import Derived.BigQuiet
import Derived.WalkSpells
section
/- The walks of package body over a body that is a function of its cells: New, Has, Get. -/
namespace Go.Proofs.YtjmbilbkmcebeaaGreatDoor
open Go Go.RowKit
set_option maxRecDepth 100000
set_option linter.unusedSimpArgs false
attribute [local go_sem] giv
variable {E : Nat → Addr} {B : Nat}

/-- What a block's value holds: bytes, or nothing: it is lost. Its block is no one of M. -/
def Blk (w : World) (M : Nat → Prop) (v : Value) (o : Option (List Int)) : Prop :=
  (v = .slice none 0 0 ∧ o = none) ∨ ∃ h l, v = .slice (some ⟨h, 0, none⟩) 256 256 ∧ o = some l ∧ l.length = 256 ∧ Row w h 5 (l.map (Value.int .u8)) ∧ ¬ M h

theorem Blk.touch {w w' : World} {M S : Nat → Prop} {v : Value} {o : Option (List Int)} (h : Blk w M v o) (ht : Touch S w w') (hS : ∀ x, S x → M x) : Blk w' M v o := by
  rcases h with h | ⟨h, l, h1, h2, h3, h4, h5⟩
  · exact .inl h
  · exact .inr ⟨h, l, h1, h2, h3, h4.touch ht fun hs => h5 (hS _ hs), h5⟩
theorem Blk.more {w : World} {M M' : Nat → Prop} {v : Value} {o : Option (List Int)} (h : Blk w M v o) (hM : ∀ x, M' x → M x ∨ w.heap.size ≤ x) : Blk w M' v o := by
  rcases h with h | ⟨h, l, h1, h2, h3, h4, h5⟩
  · exact .inl h
  · exact .inr ⟨h, l, h1, h2, h3, h4, fun hm => by
      rcases hM _ hm with hm | hm
      · exact h5 hm
      · have := h4.lt; omega⟩

section
variable {w w' : World} {M S : Nat → Prop} {b m d : Nat} {g : Cl → Option (Option (List Int))} {gd : Cl → Option Int} {n k : Nat}
theorem zeroB (w : World) : (zeroValue 126).run Tryz.prog w = .ok (.slice none 0 0) w := by kernel_rfl
end

theorem drewN_below (w : World) (q : Nat) : Below w.heap.size w (w.drewN q) := ⟨rfl, rfl, rfl, Nat.le_refl _, fun _ _ => rfl⟩

end Go.Proofs.YtjmbilbkmcebeaaGreatDoor
end
