/- Merged texts: Cell. -/
import Derived.Test.YtjmbilbkmcebeaaGreatDoorBase02
import Derived.Test.YtjmbilbkmcebeaaGreatDoorBase06
import Derived.DeepKeys4
section
/- Keys that are structs of two ints (api.Cell): the kit's bundle, and that each is a key. -/
namespace Go.Proofs.YtjmbilbkmcebeaaGreatDoor
open Go Go.RowKit
set_option maxRecDepth 100000

/-- A cell. -/
abbrev Cl := Int × Int
def encC (c : Cl) : Value := .agg #[.int .i64 c.1, .int .i64 c.2]
theorem encC_inj : ∀ a b : Cl, encC a = encC b → a = b := by
  rintro ⟨a, b⟩ ⟨c, d⟩ h
  simp only [encC, Value.agg.injEq, Array.mk.injEq, List.cons.injEq, Value.int.injEq, true_and, and_true] at h
  obtain ⟨rfl, rfl⟩ := h
  rfl

theorem intCells : Tryz.prog.cellsOf 3 = 1 := by kernel_rfl

def In64 (a : Int) : Prop := -9223372036854775808 ≤ a ∧ a ≤ 9223372036854775807
theorem wf_in64 {a : Int} (h : In64 a) : (Lit.int .i64 a).wf = true := by
  unfold In64 at h
  simp [Lit.wf, IntKind.min, IntKind.max, IntKind.signed, IntKind.bits]; omega

end Go.Proofs.YtjmbilbkmcebeaaGreatDoor
end
