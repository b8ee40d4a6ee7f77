/- Merged texts: VolNum. -/
import Derived.Test.YtjekpbkmhgfhoaaGreatDoorItoaM
import Derived.Test.YtjekpbkmhgfhoaaGreatDoorGBase43
import Derived.Lib.AppendIntMem
import Derived.Lib.SmallJoins
section
/- The text of a number, by the table of powers. -/
namespace Go.Proofs.YtjekpbkmhgfhoaaGreatDoor
open Go Go.RowKit
set_option maxRecDepth 100000
set_option linter.unusedSimpArgs false
set_option linter.unusedVariables false
attribute [local go_sem] giv
abbrev TabOk (w : World) : Prop := Lib.TabIs Tryz.prog w "internal/strconv.uint64pow10" .u64 Lib.pow10Tab
theorem TabOk.below {w w' : World} (h : TabOk w) (hb : Below w.heap.size w w') : TabOk w' :=
  Go.Joins.tab_stays (g := 24) (by kernel_rfl) h hb (Nat.le_refl _)
theorem numM_any {x : Int} (h0 : -9223372036854775808 ≤ x) (h1 : x ≤ 9223372036854775807) (w : World) (ht : TabOk w) : Calls Tryz.prog 19 #[.int .i64 x] w fun e w' => e = .returned (.string ⟨(Lib.itoa x).toArray⟩) ∧ Below w.heap.size w w' := by
  go_enter Tryz.func19, Tryz.ntmps19
  go_wp2_with fail
  refine (Tryz.strconv_Itoa x h0 h1 w ht).mono ?_
  rintro e w2 ⟨rfl, k, os, rfl⟩
  go_wp2
  go_ret
  exact ⟨rfl, Lib.below_grow _ w (Nat.le_refl _) k os⟩
end Go.Proofs.YtjekpbkmhgfhoaaGreatDoor
end
