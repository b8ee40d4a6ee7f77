/- Closed facts of the program that every row of this seat asks: each proved once, by the kernel. -/
import Derived.Test.YthominkfjfnkbaaDoorRows
import Derived.JoinedOf
namespace Go.Proofs.YthominkfjfnkbaaDoor
open Go
set_option maxRecDepth 100000
theorem seat_laidOut : laidOutB Tryd.prog = true := by kernel_rfl
theorem seat_mapsRowed : mapsRowed Tryd.prog = true := by kernel_rfl
theorem seat_stopsHeard : Tryd.prog.stopsHeard = true := by kernel_rfl
theorem seat_mayEnter : Tryd.prog.mayEnter = true := by kernel_rfl
theorem seat_plainKeys : Tryd.prog.plainKeys = Rows.openPlacesRow.plainKeys := by kernel_rfl
theorem seat_lifted : Tryd.prog.liftsFinal = Rows.openPlacesRow.lifted := by kernel_rfl
theorem seat_make : Tryd.prog.make = some Rows.openPlacesRow.make := by kernel_rfl
end Go.Proofs.YthominkfjfnkbaaDoor
