/- Merged texts: Facts. -/
import Derived.Test.YtnkcbogikaebfaaDoorRows
import Derived.JoinedOf
section
/- Closed facts of the program that every row of this seat asks: each proved once, by the kernel. -/
namespace Go.Proofs.YtnkcbogikaebfaaDoor
open Go
set_option maxRecDepth 100000
theorem seat_laidOut : laidOutB Tryd.prog = true := by kernel_rfl
theorem seat_mapsRowed : mapsRowed Tryd.prog = true := by kernel_rfl
theorem seat_stopsHeard : Tryd.prog.stopsHeard = true := by kernel_rfl
theorem seat_mayEnter : Tryd.prog.mayEnter = true := by kernel_rfl
theorem seat_plainKeys : Tryd.prog.plainKeys = Rows.bodyPlaysRow.plainKeys := by kernel_rfl
theorem seat_lifted : Tryd.prog.liftsFinal = Rows.bodyPlaysRow.lifted := by kernel_rfl
theorem seat_make : Tryd.prog.make = some Rows.bodyPlaysRow.make := by kernel_rfl
end Go.Proofs.YtnkcbogikaebfaaDoor
end
