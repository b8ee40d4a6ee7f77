/- Merged texts: Cell. -/
import Derived.Test.YtjekpbkmhgfhoaaGreatDoorGBase06
import Derived.Test.YtjekpbkmhgfhoaaGreatDoorGBase01
import Derived.DeepKeys4
section
/- Keys that are structs of two ints (api.Cell): the kit's bundle, and that each is a key. -/
namespace Go.Proofs.YtjekpbkmhgfhoaaGreatDoor
open Go Go.RowKit
set_option maxRecDepth 100000

/-- A cell. -/
abbrev Cl := Int × Int
def encC (c : Cl) : Value := .agg #[.int .i64 c.1, .int .i64 c.2]
theorem encC_inj : ∀ a b : Cl, encC a = encC b → a = b := by
  rintro ⟨a, b⟩ ⟨c, d⟩ h
  simp only [encC, Value.agg.injEq, Array.mk.injEq, List.cons.injEq, Value.int.injEq, true_and, and_true] at h
  obtain ⟨rfl, rfl⟩ := h
  rfl

theorem cellWide : (match Tryz.prog.underlying 77 with | some (.array _ _) | some (.struct _) => true | _ => false) = true := by rw [Tryz.underlying77]
theorem cellLaw : WideMaps.KeyLaw Tryz.prog 77 := deep_law_laid seat_laidOut (m := 2) (by omega) (of_decide_eq_true (by kernel_rfl)) (by kernel_rfl) cellWide
theorem kdCell : Maps.Keyed Tryz.prog 77 := Maps.Keyed.of_law cellLaw
theorem cellDeep : Tryz.prog.keyType 77 = true := by kernel_rfl
theorem cellCells : Tryz.prog.cellsOf 77 = 2 := by kernel_rfl
theorem intCells : Tryz.prog.cellsOf 3 = 1 := by kernel_rfl

def In64 (a : Int) : Prop := -9223372036854775808 ≤ a ∧ a ≤ 9223372036854775807
theorem wf_in64 {a : Int} (h : In64 a) : (Lit.int .i64 a).wf = true := by
  unfold In64 at h
  simp [Lit.wf, IntKind.min, IntKind.max, IntKind.signed, IntKind.bits]; omega

theorem keyC {c : Cl} (h1 : In64 c.1) (h2 : In64 c.2) : ∃ l, keyOf Tryz.prog 77 (encC c) = some l := by
  have w1 := wf_in64 h1
  have w2 := wf_in64 h2
  obtain ⟨n, hn⟩ : ∃ n, Tryz.prog.types.size = n + 1 := ⟨Tryz.prog.types.size - 1, by
    have : 0 < Tryz.prog.types.size := of_decide_eq_true (by kernel_rfl)
    omega⟩
  have hl : Tryz.prog.keyLits (Tryz.prog.types.size + 1) 77 [.int .i64 c.1, .int .i64 c.2] = some [.int .i64 c.1, .int .i64 c.2] := by
    rw [hn]
    simp [Program.keyLits, Tryz.underlying77, Tryz.underlying3, cellCells, intCells, w1, w2]
  refine ⟨.string (keyBytes [.int .i64 c.1, .int .i64 c.2]), ?_⟩
  simp [keyOf, Tryz.underlying77, cellDeep, encC, Value.formed, cellCells, Value.cells]
  exact ⟨_, hl, rfl⟩
end Go.Proofs.YtjekpbkmhgfhoaaGreatDoor
end
