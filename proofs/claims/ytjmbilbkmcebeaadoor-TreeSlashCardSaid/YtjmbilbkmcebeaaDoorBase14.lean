/- Merged texts: Ents. -/
import Derived.Test.YtjmbilbkmcebeaaDoorBase06
import Derived.Test.YtjmbilbkmcebeaaDoorBase08
import Derived.Test.YtjmbilbkmcebeaaDoorBase13
import Derived.Deep.RegionHeld3
section
/- Slices of entries: the reference's SameEntry, SameEntrys, Entrys. -/
namespace Go.Proofs.YtjmbilbkmcebeaaDoor
open Go Go.RowKit
set_option maxRecDepth 100000
set_option linter.unusedSimpArgs false
attribute [local go_sem] giv
variable {E : Nat → Addr} {B : Nat}

instance : DecidableEq En := fun a b => decidable_of_iff (a.name = b.name ∧ a.node = b.node ∧ a.kind = b.kind) ⟨fun ⟨h1, h2, h3⟩ => by cases a; cases b; simp_all, fun h => by subst h; exact ⟨rfl, rfl, rfl⟩⟩
def encEl (e : En) : List Value := [.string e.name, .int .i64 e.node, .int .i64 e.kind]
theorem encEl_len (e : En) : (encEl e).length = 3 := rfl
abbrev RdEn (w : World) (v : Value) (xs : List En) : Prop := RdE w 3 encEl v xs
abbrev SlEn (w : World) (base : Nat) (v : Value) (xs : List En) : Prop := SlE w base 86 3 encEl v xs

theorem str_ext {a b : ByteArray} (h : a.toList = b.toList) : a = b := by
  rw [ByteArray.toList_eq, ByteArray.toList_eq] at h
  cases a; cases b; congr 1; exact Array.toList_inj.1 h

/-- Are two lists the same from their beginnings? -/
theorem same_stepL {α : Type} {l m : List α} {j : Nat} (h : j < l.length) (h2 : j < m.length) (he : l.take j = m.take j) : (l.take (j + 1) = m.take (j + 1)) ↔ l[j] = m[j] := by
  rw [List.take_succ_eq_append_getElem h, List.take_succ_eq_append_getElem h2, he, List.append_cancel_left_eq]
  simp

end Go.Proofs.YtjmbilbkmcebeaaDoor
end
