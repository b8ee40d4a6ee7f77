/-
  DERIVED. GIVEN WITH THE SEED: THE CARDS: each row of YtnkcbogikaebfaaDoorRows.lean that lists a variable, with what it lists TIED to the program's text (the seventh form; the later family's looks); each row that meets fmt, with fmt's text TOLD by the authors' own Lean function (tested against real Go, not proved from fmt's source: count such statements apart). THE CARD IS WHAT COUNTS. Prove the row's statement (the work); the ties are given (YtnkcbogikaebfaaDoorTie.lean); close each card by the builder's one call (the guide's Derived/Test/ToyasCard.lean, 'card_holds'). Laid BY PROGRAM, IN A SANDBOX (cutbox-door.mjs). By AI agents, Wed Nov 11 2026. No macro, syntax, notation, axiom, sorry.
-/
import Derived.Test.YtnkcbogikaebfaaDoorRows
import GoSem.ClaimSeven
namespace Go.Proofs.YtnkcbogikaebfaaDoor
namespace Rows

/-- THE TIED CARD OF 'breviarylaw16.BodyPlays'. -/
def bodyPlaysCard : Claim7 := { stood := { row := bodyPlaysRow, standIns := [], harness := (true, "f6767d79667f93ab6f6a5f406fdb6ae5e1d521e199229d98abf1527911804bdb"), looks := true }, kinds := [], alts := [], laidByText := true, laidKinds := [.sentinel, .sentinel, .sentinel, .sentinel, .sentinel, .sentinel, .sentinel, .sentinel, .sentinel, .sentinel, .sentinel, .sentinel, .sentinel, .sentinel, .sentinel, .sentinel, .sentinel, .sentinel, .sentinel, .sentinel, .sentinel, .sentinel, .sentinel, .sentinel], laidTests := true, laidLooks := .later }
def BodyPlaysCardSaid : Prop := Claim7.holds Tryd.pinned (.plain (OpenSpec.ofChange bodyPlaysSpec)) bodyPlaysCard

/-- THE SECOND FORM's CARD OF 'breviarylaw16.BodyPlays'. -/
def bodyPlaysUptoCard : Claim7 := { stood := { row := bodyPlaysUptoRow, standIns := [], harness := (true, "f6767d79667f93ab6f6a5f406fdb6ae5e1d521e199229d98abf1527911804bdb"), looks := true }, kinds := [], alts := [], laidByText := true, laidKinds := [.sentinel, .sentinel, .sentinel, .sentinel, .sentinel, .sentinel, .sentinel, .sentinel, .sentinel, .sentinel, .sentinel, .sentinel, .sentinel, .sentinel, .sentinel, .sentinel, .sentinel, .sentinel, .sentinel, .sentinel, .sentinel, .sentinel, .sentinel, .sentinel], laidTests := true, laidLooks := .later }
def BodyPlaysUptoCardSaid : Prop := Claim7.holds Tryd.pinned (.plain (OpenSpec.upto bodyPlaysSpec)) bodyPlaysUptoCard
end Rows
end Go.Proofs.YtnkcbogikaebfaaDoor
