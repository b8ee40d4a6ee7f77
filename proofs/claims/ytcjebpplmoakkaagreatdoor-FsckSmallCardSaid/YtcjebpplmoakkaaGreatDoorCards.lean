/-
  DERIVED. GIVEN WITH THE SEED: THE CARDS: each row of YtcjebpplmoakkaaGreatDoorRows.lean that lists a variable, with what it lists TIED to the program's text (the seventh form; the later family's looks); each row that meets fmt, with fmt's text TOLD by the authors' own Lean function (tested against real Go, not proved from fmt's source: count such statements apart). THE CARD IS WHAT COUNTS. Prove the row's statement (the work); the ties are given (YtcjebpplmoakkaaGreatDoorTie.lean); close each card by the builder's one call (the guide's Derived/Test/ToyasCard.lean, 'card_holds'). Laid BY PROGRAM, IN A SANDBOX (cutbox-door.mjs). By AI agents, Wed Nov 11 2026. No macro, syntax, notation, axiom, sorry.
-/
import Derived.Test.YtcjebpplmoakkaaGreatDoorRows
import GoSem.ClaimSeven
namespace Go.Proofs.YtcjebpplmoakkaaGreatDoor
namespace Rows

/-- THE TIED CARD OF 'breviarylaw26.FsckSmall'. -/
def fsckSmallCard : Claim7 := { stood := { row := fsckSmallRow, standIns := [], harness := (true, "77e9961180bff45b3b44e04f32be2bf61ffe806a05c90e390a83ddf69e9347ff"), looks := true }, kinds := [], alts := [], laidByText := true, laidKinds := [.data, .data, .data, .sentinel, .sentinel, .sentinel, .sentinel, .sentinel, .sentinel, .sentinel, .sentinel, .sentinel, .sentinel, .sentinel, .sentinel, .sentinel, .sentinel, .sentinel, .sentinel, .sentinel, .sentinel, .sentinel, .sentinel, .sentinel, .sentinel, .sentinel, .sentinel], laidTests := true, laidLooks := .later }
def FsckSmallCardSaid : Prop := Claim7.holds Tryz.pinned (.plain (OpenSpec.ofChange fsckSmallSpec)) fsckSmallCard

/-- THE SECOND FORM's CARD OF 'breviarylaw26.FsckSmall'. -/
def fsckSmallUptoCard : Claim7 := { stood := { row := fsckSmallUptoRow, standIns := [], harness := (true, "77e9961180bff45b3b44e04f32be2bf61ffe806a05c90e390a83ddf69e9347ff"), looks := true }, kinds := [], alts := [], laidByText := true, laidKinds := [.data, .data, .data, .sentinel, .sentinel, .sentinel, .sentinel, .sentinel, .sentinel, .sentinel, .sentinel, .sentinel, .sentinel, .sentinel, .sentinel, .sentinel, .sentinel, .sentinel, .sentinel, .sentinel, .sentinel, .sentinel, .sentinel, .sentinel, .sentinel, .sentinel, .sentinel], laidTests := true, laidLooks := .later }
def FsckSmallUptoCardSaid : Prop := Claim7.holds Tryz.pinned (.plain (OpenSpec.upto fsckSmallSpec)) fsckSmallUptoCard
end Rows
end Go.Proofs.YtcjebpplmoakkaaGreatDoor
