/- Merged texts: Facts. -/
import Derived.Test.YtjmbilbkmcebeaaDoorRows
import Derived.JoinedOf
section
/- Closed facts of the program that every row of this seat asks: each proved once, by the kernel. -/
namespace Go.Proofs.YtjmbilbkmcebeaaDoor
open Go
set_option maxRecDepth 100000
theorem seat_laidOut : laidOutB Tryd.prog = true := by kernel_rfl
theorem seat_mapsRowed : mapsRowed Tryd.prog = true := by kernel_rfl
theorem seat_stopsHeard : Tryd.prog.stopsHeard = true := by kernel_rfl
theorem seat_mayEnter : Tryd.prog.mayEnter = true := by kernel_rfl
theorem seat_plainKeys : Tryd.prog.plainKeys = Rows.treeSlashRow.plainKeys := by kernel_rfl
theorem seat_lifted : Tryd.prog.liftsFinal = Rows.treeSlashRow.lifted := by kernel_rfl
theorem seat_make : Tryd.prog.make = some Rows.treeSlashRow.make := by kernel_rfl
end Go.Proofs.YtjmbilbkmcebeaaDoor
end
