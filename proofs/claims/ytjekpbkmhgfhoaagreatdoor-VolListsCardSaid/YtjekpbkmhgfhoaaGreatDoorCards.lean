/-
  DERIVED. GIVEN WITH THE SEED: THE CARDS: each row of YtjekpbkmhgfhoaaGreatDoorRows.lean that lists a variable, with what it lists TIED to the program's text (the seventh form; the later family's looks); each row that meets fmt, with fmt's text TOLD by the authors' own Lean function (tested against real Go, not proved from fmt's source: count such statements apart). THE CARD IS WHAT COUNTS. Prove the row's statement (the work); the ties are given (YtjekpbkmhgfhoaaGreatDoorTie.lean); close each card by the builder's one call (the guide's Derived/Test/ToyasCard.lean, 'card_holds'). Laid BY PROGRAM, IN A SANDBOX (cutbox-door.mjs). By AI agents, Wed Nov 11 2026. No macro, syntax, notation, axiom, sorry.
-/
import Derived.Test.YtjekpbkmhgfhoaaGreatDoorRows
import GoSem.ClaimSeven
namespace Go.Proofs.YtjekpbkmhgfhoaaGreatDoor
namespace Rows

/-- THE TIED CARD OF 'breviarylaw21.VolOpen'. -/
def volOpenCard : Claim7 := { stood := { row := volOpenRow, standIns := [], harness := (true, "d640aaff3de4f05b1e8b1ca3506e14dadb8d2d6911c9d86683e3528e43f766e2"), looks := true }, kinds := [], alts := [], laidByText := true, laidKinds := [.data, .sentinel, .sentinel, .sentinel, .sentinel, .sentinel, .sentinel, .sentinel, .sentinel, .sentinel, .sentinel, .sentinel, .sentinel, .sentinel, .sentinel, .sentinel, .sentinel, .sentinel, .sentinel, .sentinel, .sentinel, .sentinel, .sentinel, .sentinel, .sentinel, .pinned], laidTests := true, laidLooks := .later }
def VolOpenCardSaid : Prop := Claim7.holds Tryz.pinned (.plain (OpenSpec.ofChange volOpenSpec)) volOpenCard

/-- THE TIED CARD OF 'breviarylaw21.VolLists'. -/
def volListsCard : Claim7 := { stood := { row := volListsRow, standIns := [], harness := (true, "d640aaff3de4f05b1e8b1ca3506e14dadb8d2d6911c9d86683e3528e43f766e2"), looks := true }, kinds := [], alts := [], laidByText := true, laidKinds := [.data, .data, .data, .data, .sentinel, .sentinel, .sentinel, .sentinel, .sentinel, .sentinel, .sentinel, .sentinel, .sentinel, .sentinel, .sentinel, .sentinel, .sentinel, .sentinel, .sentinel, .sentinel, .sentinel, .sentinel, .sentinel, .sentinel, .sentinel, .sentinel, .sentinel, .sentinel, .pinned], laidTests := true, laidLooks := .later }
def VolListsCardSaid : Prop := Claim7.holds Tryz.pinned (.plain (OpenSpec.ofChange volListsSpec)) volListsCard

/-- THE SECOND FORM's CARD OF 'breviarylaw21.VolOpen'. -/
def volOpenUptoCard : Claim7 := { stood := { row := volOpenUptoRow, standIns := [], harness := (true, "d640aaff3de4f05b1e8b1ca3506e14dadb8d2d6911c9d86683e3528e43f766e2"), looks := true }, kinds := [], alts := [], laidByText := true, laidKinds := [.data, .sentinel, .sentinel, .sentinel, .sentinel, .sentinel, .sentinel, .sentinel, .sentinel, .sentinel, .sentinel, .sentinel, .sentinel, .sentinel, .sentinel, .sentinel, .sentinel, .sentinel, .sentinel, .sentinel, .sentinel, .sentinel, .sentinel, .sentinel, .sentinel, .pinned], laidTests := true, laidLooks := .later }
def VolOpenUptoCardSaid : Prop := Claim7.holds Tryz.pinned (.plain (OpenSpec.upto volOpenSpec)) volOpenUptoCard

/-- THE SECOND FORM's CARD OF 'breviarylaw21.VolLists'. -/
def volListsUptoCard : Claim7 := { stood := { row := volListsUptoRow, standIns := [], harness := (true, "d640aaff3de4f05b1e8b1ca3506e14dadb8d2d6911c9d86683e3528e43f766e2"), looks := true }, kinds := [], alts := [], laidByText := true, laidKinds := [.data, .data, .data, .data, .sentinel, .sentinel, .sentinel, .sentinel, .sentinel, .sentinel, .sentinel, .sentinel, .sentinel, .sentinel, .sentinel, .sentinel, .sentinel, .sentinel, .sentinel, .sentinel, .sentinel, .sentinel, .sentinel, .sentinel, .sentinel, .sentinel, .sentinel, .sentinel, .pinned], laidTests := true, laidLooks := .later }
def VolListsUptoCardSaid : Prop := Claim7.holds Tryz.pinned (.plain (OpenSpec.upto volListsSpec)) volListsUptoCard
end Rows
end Go.Proofs.YtjekpbkmhgfhoaaGreatDoor
