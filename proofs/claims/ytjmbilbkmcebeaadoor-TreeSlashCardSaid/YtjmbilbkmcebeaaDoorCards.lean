/-
  DERIVED. GIVEN WITH THE SEED: THE CARDS: each row of YtjmbilbkmcebeaaDoorRows.lean that lists a variable, with what it lists TIED to the program's text (the seventh form; the later family's looks); each row that meets fmt, with fmt's text TOLD by the authors' own Lean function (tested against real Go, not proved from fmt's source: count such statements apart). THE CARD IS WHAT COUNTS. Prove the row's statement (the work); the ties are given (YtjmbilbkmcebeaaDoorTie.lean); close each card by the builder's one call (the guide's Derived/Test/ToyasCard.lean, 'card_holds'). Laid BY PROGRAM, IN A SANDBOX (cutbox-door.mjs). By AI agents, Wed Nov 11 2026. No macro, syntax, notation, axiom, sorry.
-/
import Derived.Test.YtjmbilbkmcebeaaDoorRows
import GoSem.ClaimSeven
namespace Go.Proofs.YtjmbilbkmcebeaaDoor
namespace Rows

/-- THE TIED CARD OF 'breviarylaw19.TreeSlash'. -/
def treeSlashCard : Claim7 := { stood := { row := treeSlashRow, standIns := [], harness := (true, "f20f160da58dd8cd59a5e6867cdda31376418c0583def84fb5ea9a08a0ea7709"), looks := true }, kinds := [], alts := [], laidByText := true, laidKinds := [.data, .sentinel, .sentinel, .sentinel, .sentinel, .sentinel, .sentinel, .sentinel, .sentinel, .sentinel, .sentinel, .sentinel, .sentinel, .sentinel, .sentinel, .sentinel, .sentinel, .sentinel, .sentinel, .sentinel, .sentinel, .sentinel, .sentinel, .sentinel, .sentinel, .pinned], laidTests := true, laidLooks := .later }
def TreeSlashCardSaid : Prop := Claim7.holds Tryd.pinned (.plain (OpenSpec.ofChange treeSlashSpec)) treeSlashCard

/-- THE TIED CARD OF 'breviarylaw16.BodyLost'. -/
def bodyLostCard : Claim7 := { stood := { row := bodyLostRow, standIns := [], harness := (true, "f20f160da58dd8cd59a5e6867cdda31376418c0583def84fb5ea9a08a0ea7709"), looks := true }, kinds := [], alts := [], laidByText := true, laidKinds := [.sentinel, .sentinel, .sentinel, .sentinel, .sentinel, .sentinel, .sentinel, .sentinel, .sentinel, .sentinel, .sentinel, .sentinel, .sentinel, .sentinel, .sentinel, .sentinel, .sentinel, .sentinel, .sentinel, .sentinel, .sentinel, .sentinel, .sentinel, .sentinel], laidTests := true, laidLooks := .later }
def BodyLostCardSaid : Prop := Claim7.holds Tryd.pinned (.plain (OpenSpec.ofChange bodyLostSpec)) bodyLostCard

/-- THE TIED CARD OF 'breviarylaw16.BodyPlays'. -/
def bodyPlaysCard : Claim7 := { stood := { row := bodyPlaysRow, standIns := [], harness := (true, "f20f160da58dd8cd59a5e6867cdda31376418c0583def84fb5ea9a08a0ea7709"), looks := true }, kinds := [], alts := [], laidByText := true, laidKinds := [.sentinel, .sentinel, .sentinel, .sentinel, .sentinel, .sentinel, .sentinel, .sentinel, .sentinel, .sentinel, .sentinel, .sentinel, .sentinel, .sentinel, .sentinel, .sentinel, .sentinel, .sentinel, .sentinel, .sentinel, .sentinel, .sentinel, .sentinel, .sentinel], laidTests := true, laidLooks := .later }
def BodyPlaysCardSaid : Prop := Claim7.holds Tryd.pinned (.plain (OpenSpec.ofChange bodyPlaysSpec)) bodyPlaysCard

/-- THE SECOND FORM's CARD OF 'breviarylaw19.TreeSlash'. -/
def treeSlashUptoCard : Claim7 := { stood := { row := treeSlashUptoRow, standIns := [], harness := (true, "f20f160da58dd8cd59a5e6867cdda31376418c0583def84fb5ea9a08a0ea7709"), looks := true }, kinds := [], alts := [], laidByText := true, laidKinds := [.data, .sentinel, .sentinel, .sentinel, .sentinel, .sentinel, .sentinel, .sentinel, .sentinel, .sentinel, .sentinel, .sentinel, .sentinel, .sentinel, .sentinel, .sentinel, .sentinel, .sentinel, .sentinel, .sentinel, .sentinel, .sentinel, .sentinel, .sentinel, .sentinel, .pinned], laidTests := true, laidLooks := .later }
def TreeSlashUptoCardSaid : Prop := Claim7.holds Tryd.pinned (.plain (OpenSpec.upto treeSlashSpec)) treeSlashUptoCard

/-- THE SECOND FORM's CARD OF 'breviarylaw16.BodyLost'. -/
def bodyLostUptoCard : Claim7 := { stood := { row := bodyLostUptoRow, standIns := [], harness := (true, "f20f160da58dd8cd59a5e6867cdda31376418c0583def84fb5ea9a08a0ea7709"), looks := true }, kinds := [], alts := [], laidByText := true, laidKinds := [.sentinel, .sentinel, .sentinel, .sentinel, .sentinel, .sentinel, .sentinel, .sentinel, .sentinel, .sentinel, .sentinel, .sentinel, .sentinel, .sentinel, .sentinel, .sentinel, .sentinel, .sentinel, .sentinel, .sentinel, .sentinel, .sentinel, .sentinel, .sentinel], laidTests := true, laidLooks := .later }
def BodyLostUptoCardSaid : Prop := Claim7.holds Tryd.pinned (.plain (OpenSpec.upto bodyLostSpec)) bodyLostUptoCard

/-- THE SECOND FORM's CARD OF 'breviarylaw16.BodyPlays'. -/
def bodyPlaysUptoCard : Claim7 := { stood := { row := bodyPlaysUptoRow, standIns := [], harness := (true, "f20f160da58dd8cd59a5e6867cdda31376418c0583def84fb5ea9a08a0ea7709"), looks := true }, kinds := [], alts := [], laidByText := true, laidKinds := [.sentinel, .sentinel, .sentinel, .sentinel, .sentinel, .sentinel, .sentinel, .sentinel, .sentinel, .sentinel, .sentinel, .sentinel, .sentinel, .sentinel, .sentinel, .sentinel, .sentinel, .sentinel, .sentinel, .sentinel, .sentinel, .sentinel, .sentinel, .sentinel], laidTests := true, laidLooks := .later }
def BodyPlaysUptoCardSaid : Prop := Claim7.holds Tryd.pinned (.plain (OpenSpec.upto bodyPlaysSpec)) bodyPlaysUptoCard
end Rows
end Go.Proofs.YtjmbilbkmcebeaaDoor
