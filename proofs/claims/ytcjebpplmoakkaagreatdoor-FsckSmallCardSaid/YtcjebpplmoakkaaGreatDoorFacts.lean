/- Closed facts of the program that every row of this seat asks: each proved once, by the kernel. -/
import Derived.Test.YtcjebpplmoakkaaGreatDoorRows
import Derived.JoinedOf
namespace Go.Proofs.YtcjebpplmoakkaaGreatDoor
open Go
set_option maxRecDepth 100000
theorem seat_laidOut : laidOutB Tryz.prog = true := by kernel_rfl
theorem seat_mapsRowed : mapsRowed Tryz.prog = true := by kernel_rfl
theorem seat_stopsHeard : Tryz.prog.stopsHeard = true := by kernel_rfl
theorem seat_mayEnter : Tryz.prog.mayEnter = true := by kernel_rfl
theorem seat_plainKeys : Tryz.prog.plainKeys = Rows.fsckSmallRow.plainKeys := by kernel_rfl
theorem seat_lifted : Tryz.prog.liftsFinal = Rows.fsckSmallRow.lifted := by kernel_rfl
theorem seat_make : Tryz.prog.make = some Rows.fsckSmallRow.make := by kernel_rfl
end Go.Proofs.YtcjebpplmoakkaaGreatDoor
