/- Merged texts: All. -/
import Derived.Test.YtjmbilbkmcebeaaDoorIterI
import Derived.Test.YtjmbilbkmcebeaaDoorBase03
import Derived.Test.YtjmbilbkmcebeaaDoorBase16
section
/- The numbers of a table, rising: slices.Sorted(maps.Keys(m)) by the kit's contracts. -/
namespace Go.Proofs.YtjmbilbkmcebeaaDoor
open Go Go.RowKit Go.Maps Go.Sort
set_option maxRecDepth 100000
set_option linter.unusedSimpArgs false

/-- v is a slice of one-cell elements that holds xs, in a block from base on. -/
def SlVals (w : World) (base : Nat) (v : Value) (xs : List Value) : Prop :=
  (v = .slice none 0 0 ∧ xs = []) ∨ ∃ h cap, v = .slice (some ⟨h, 0, none⟩) xs.length cap ∧ base ≤ h ∧ h < w.heap.size ∧ xs.length ≤ cap ∧ ∀ i, i < xs.length → w.cell? ⟨h, i, none⟩ = xs[i]?
theorem SlVals.of_owns {w : World} {base : Nat} {t : TypeId} {v : Value} {n : Nat} {xs : List Value} (h : w.ownsRow base t 1 v n xs) : SlVals w base v xs := by
  obtain ⟨hl, ⟨rfl, rfl⟩ | ⟨g, cap, cur, rfl, hb, hg, hn, hc, hs, hx⟩⟩ := h
  · exact .inl ⟨rfl, List.eq_nil_of_length_eq_zero (by omega)⟩
  · rw [Nat.mul_one] at hl hx hs
    subst hl
    refine .inr ⟨g, cap, rfl, hb, (Array.getElem?_eq_some_iff.1 hg).1, hn, fun i hi => ?_⟩
    have h1 : xs[i]? = cur[i]? := by
      rw [← hx, List.getElem?_take, if_pos hi]
      simp
    rw [h1]
    simp [World.cell?, hg]
theorem SlVals.below {w w' : World} {base : Nat} {v : Value} {xs : List Value} (h : SlVals w base v xs) (hb : Below w.heap.size w w') : SlVals w' base v xs := by
  rcases h with h | ⟨g, cap, h1, h2, h3, h4, h5⟩
  · exact .inl h
  · exact .inr ⟨g, cap, h1, h2, Nat.lt_of_lt_of_le h3 hb.size, h4, fun i hi => (hb.cell (p := ⟨g, i, none⟩) h3).trans (h5 i hi)⟩
theorem SlVals.mono {w : World} {base base' : Nat} {v : Value} {xs : List Value} (h : SlVals w base v xs) (hb : base' ≤ base) : SlVals w base' v xs := by
  rcases h with h | ⟨g, cap, h1, h2, h3, h4, h5⟩
  · exact .inl h
  · exact .inr ⟨g, cap, h1, Nat.le_trans hb h2, h3, h4, h5⟩

end Go.Proofs.YtjmbilbkmcebeaaDoor
end
