/- Merged texts: Ents. -/
import Derived.Test.YtjekpbkmhgfhoaaGreatDoorGBase09
import Derived.Test.YtjekpbkmhgfhoaaGreatDoorGBase11
import Derived.Test.YtjekpbkmhgfhoaaGreatDoorGBase15
import Derived.Deep.RegionHeld3
section
/- Slices of entries: the reference's SameEntry, SameEntrys, Entrys. -/
namespace Go.Proofs.YtjekpbkmhgfhoaaGreatDoor
open Go Go.RowKit
set_option maxRecDepth 100000
set_option linter.unusedSimpArgs false
attribute [local go_sem] giv
variable {E : Nat → Addr} {B : Nat}

instance : DecidableEq En := fun a b => decidable_of_iff (a.name = b.name ∧ a.node = b.node ∧ a.kind = b.kind) ⟨fun ⟨h1, h2, h3⟩ => by cases a; cases b; simp_all, fun h => by subst h; exact ⟨rfl, rfl, rfl⟩⟩
def encEl (e : En) : List Value := [.string e.name, .int .i64 e.node, .int .i64 e.kind]
theorem encEl_len (e : En) : (encEl e).length = 3 := rfl
theorem entT : ElemT Tryz.prog 47 51 3 32 encEl where
  ht := Tryz.underlying47
  info := ⟨.agg #[.string { data := #[] }, .int .i64 0, .int .i64 0], rfl, by kernel_rfl⟩
  len := encEl_len
  one := by intro e u hu; simp only [encEl, List.mem_cons, List.not_mem_nil, or_false] at hu; rcases hu with rfl | rfl | rfl <;> rfl
  pos := by omega
abbrev RdEn (w : World) (v : Value) (xs : List En) : Prop := RdE w 3 encEl v xs
abbrev SlEn (w : World) (base : Nat) (v : Value) (xs : List En) : Prop := SlE w base 51 3 encEl v xs

end Go.Proofs.YtjekpbkmhgfhoaaGreatDoor
end
