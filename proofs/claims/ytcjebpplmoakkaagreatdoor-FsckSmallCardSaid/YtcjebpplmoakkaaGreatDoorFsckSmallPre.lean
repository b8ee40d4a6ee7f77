/- What the card of FsckSmall asks beside the walk. -/
import Derived.Test.YtcjebpplmoakkaaGreatDoorRows
import Derived.Test.YtcjebpplmoakkaaGreatDoorCards
import Derived.Test.YtcjebpplmoakkaaGreatDoorTie
import Derived.Test.YtcjebpplmoakkaaGreatDoorLaid
import Derived.Test.YtcjebpplmoakkaaGreatDoorFacts
import Derived.ProofKit
import Derived.OpenShut
import Derived.ChangeOld
import Derived.LaidMore
import Derived.ChangeSame
import Derived.ChangeVars
import Derived.JoinedOf
import Derived.Lay
import Derived.MakeChecks
import Derived.SevenTiedAt
import Derived.Stop.Joined
import Derived.ChangeMaps5
namespace Go.Proofs.YtcjebpplmoakkaaGreatDoor.fsckSmall
open Go.ChangeShapes Go.WideShapes Go.ChangeAt Go.RowKit
set_option maxRecDepth 100000

theorem own : ownKnob Tryz.prog.godebug = none := by kernel_rfl
theorem door_met (os : Os) (args : Array Value) : laidMetH Tryz.prog Rows.fsckSmallRow.laid ((World.doorLaid Tryz.prog 480 os).forCall (fun _ _ => 0) ⟨#[], args, []⟩).memory :=
  laidMetH_of_parts3 (fuel := 8) (laidMet_of_run' 8 (by kernel_rfl) (by kernel_rfl)) (by kernel_rfl) (by kernel_rfl)
theorem joined : joinedFacts Tryz.prog 3 Tryz.f3 Rows.fsckSmallSpec Rows.fsckSmallRow = true := by
  unfold joinedFacts
  rw [seat_laidOut, seat_mapsRowed, seat_stopsHeard, seat_mayEnter, seat_plainKeys, seat_lifted, seat_make]
  kernel_rfl
theorem inst : Tryz.f3.isInstance Tryz.prog Rows.fsckSmallRow.origin Rows.fsckSmallRow.targs := of_decide_eq_true (by kernel_rfl)
theorem wrap : Tryz.f3.isWrapper Tryz.prog Rows.fsckSmallRow.wrapper Rows.fsckSmallRow.mainSum := by
  unfold Func.isWrapper
  first | (rw [if_pos (by decide +kernel)]; kernel_rfl) | (rw [if_neg (by decide +kernel)]; exact ⟨rfl, rfl⟩)
end Go.Proofs.YtcjebpplmoakkaaGreatDoor.fsckSmall
