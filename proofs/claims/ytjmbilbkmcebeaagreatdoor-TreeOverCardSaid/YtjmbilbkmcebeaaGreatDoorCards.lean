/-
  DERIVED. GIVEN WITH THE SEED: THE CARDS: each row of YtjmbilbkmcebeaaGreatDoorRows.lean that lists a variable, with what it lists TIED to the program's text (the seventh form; the later family's looks); each row that meets fmt, with fmt's text TOLD by the authors' own Lean function (tested against real Go, not proved from fmt's source: count such statements apart). THE CARD IS WHAT COUNTS. Prove the row's statement (the work); the ties are given (YtjmbilbkmcebeaaGreatDoorTie.lean); close each card by the builder's one call (the guide's Derived/Test/ToyasCard.lean, 'card_holds'). Laid BY PROGRAM, IN A SANDBOX (cutbox-door.mjs). By AI agents, Wed Nov 11 2026. No macro, syntax, notation, axiom, sorry.
-/
import Derived.Test.YtjmbilbkmcebeaaGreatDoorRows
import GoSem.ClaimSeven
namespace Go.Proofs.YtjmbilbkmcebeaaGreatDoor
namespace Rows

/-- THE TIED CARD OF 'breviarylaw19.TreeRings'. -/
def treeRingsCard : Claim7 := { stood := { row := treeRingsRow, standIns := [], harness := (true, "f48e1ab321c1d3fd1f4d854e0e995435a6ae0131400cf04b0e3836c5e63fc359"), looks := true }, kinds := [], alts := [], laidByText := true, laidKinds := [.data, .sentinel, .sentinel, .sentinel, .sentinel, .sentinel, .sentinel, .sentinel, .sentinel, .sentinel, .sentinel, .sentinel, .sentinel, .sentinel, .sentinel, .sentinel, .sentinel, .sentinel, .sentinel, .sentinel, .sentinel, .sentinel, .sentinel, .sentinel, .sentinel, .pinned], laidTests := true, laidLooks := .later }
def TreeRingsCardSaid : Prop := Claim7.holds Tryz.pinned (.plain (OpenSpec.ofChange treeRingsSpec)) treeRingsCard

/-- THE TIED CARD OF 'breviarylaw19.TreeOver'. -/
def treeOverCard : Claim7 := { stood := { row := treeOverRow, standIns := [], harness := (true, "f48e1ab321c1d3fd1f4d854e0e995435a6ae0131400cf04b0e3836c5e63fc359"), looks := true }, kinds := [], alts := [], laidByText := true, laidKinds := [.data, .sentinel, .sentinel, .sentinel, .sentinel, .sentinel, .sentinel, .sentinel, .sentinel, .sentinel, .sentinel, .sentinel, .sentinel, .sentinel, .sentinel, .sentinel, .sentinel, .sentinel, .sentinel, .sentinel, .sentinel, .sentinel, .sentinel, .sentinel, .sentinel, .pinned], laidTests := true, laidLooks := .later }
def TreeOverCardSaid : Prop := Claim7.holds Tryz.pinned (.plain (OpenSpec.ofChange treeOverSpec)) treeOverCard

/-- THE TIED CARD OF 'breviarylaw19.TreeLinks'. -/
def treeLinksCard : Claim7 := { stood := { row := treeLinksRow, standIns := [], harness := (true, "f48e1ab321c1d3fd1f4d854e0e995435a6ae0131400cf04b0e3836c5e63fc359"), looks := true }, kinds := [], alts := [], laidByText := true, laidKinds := [.data, .sentinel, .sentinel, .sentinel, .sentinel, .sentinel, .sentinel, .sentinel, .sentinel, .sentinel, .sentinel, .sentinel, .sentinel, .sentinel, .sentinel, .sentinel, .sentinel, .sentinel, .sentinel, .sentinel, .sentinel, .sentinel, .sentinel, .sentinel, .sentinel, .pinned], laidTests := true, laidLooks := .later }
def TreeLinksCardSaid : Prop := Claim7.holds Tryz.pinned (.plain (OpenSpec.ofChange treeLinksSpec)) treeLinksCard

/-- THE TIED CARD OF 'breviarylaw19.TreeRefuses'. -/
def treeRefusesCard : Claim7 := { stood := { row := treeRefusesRow, standIns := [], harness := (true, "f48e1ab321c1d3fd1f4d854e0e995435a6ae0131400cf04b0e3836c5e63fc359"), looks := true }, kinds := [], alts := [], laidByText := true, laidKinds := [.data, .sentinel, .sentinel, .sentinel, .sentinel, .sentinel, .sentinel, .sentinel, .sentinel, .sentinel, .sentinel, .sentinel, .sentinel, .sentinel, .sentinel, .sentinel, .sentinel, .sentinel, .sentinel, .sentinel, .sentinel, .sentinel, .sentinel, .sentinel, .sentinel, .pinned], laidTests := true, laidLooks := .later }
def TreeRefusesCardSaid : Prop := Claim7.holds Tryz.pinned (.plain (OpenSpec.ofChange treeRefusesSpec)) treeRefusesCard

/-- THE TIED CARD OF 'breviarylaw19.TreeRenames'. -/
def treeRenamesCard : Claim7 := { stood := { row := treeRenamesRow, standIns := [], harness := (true, "f48e1ab321c1d3fd1f4d854e0e995435a6ae0131400cf04b0e3836c5e63fc359"), looks := true }, kinds := [], alts := [], laidByText := true, laidKinds := [.data, .sentinel, .sentinel, .sentinel, .sentinel, .sentinel, .sentinel, .sentinel, .sentinel, .sentinel, .sentinel, .sentinel, .sentinel, .sentinel, .sentinel, .sentinel, .sentinel, .sentinel, .sentinel, .sentinel, .sentinel, .sentinel, .sentinel, .sentinel, .sentinel, .pinned], laidTests := true, laidLooks := .later }
def TreeRenamesCardSaid : Prop := Claim7.holds Tryz.pinned (.plain (OpenSpec.ofChange treeRenamesSpec)) treeRenamesCard

/-- THE TIED CARD OF 'breviarylaw19.TreePlays'. -/
def treePlaysCard : Claim7 := { stood := { row := treePlaysRow, standIns := [], harness := (true, "f48e1ab321c1d3fd1f4d854e0e995435a6ae0131400cf04b0e3836c5e63fc359"), looks := true }, kinds := [], alts := [], laidByText := true, laidKinds := [.data, .sentinel, .sentinel, .sentinel, .sentinel, .sentinel, .sentinel, .sentinel, .sentinel, .sentinel, .sentinel, .sentinel, .sentinel, .sentinel, .sentinel, .sentinel, .sentinel, .sentinel, .sentinel, .sentinel, .sentinel, .sentinel, .sentinel, .sentinel, .sentinel, .pinned], laidTests := true, laidLooks := .later }
def TreePlaysCardSaid : Prop := Claim7.holds Tryz.pinned (.plain (OpenSpec.ofChange treePlaysSpec)) treePlaysCard

/-- THE TIED CARD OF 'breviarylaw19.TreeDeep'. -/
def treeDeepCard : Claim7 := { stood := { row := treeDeepRow, standIns := [], harness := (true, "f48e1ab321c1d3fd1f4d854e0e995435a6ae0131400cf04b0e3836c5e63fc359"), looks := true }, kinds := [], alts := [], laidByText := true, laidKinds := [.data, .data, .data, .data, .sentinel, .sentinel, .sentinel, .sentinel, .sentinel, .sentinel, .sentinel, .sentinel, .sentinel, .sentinel, .sentinel, .sentinel, .sentinel, .sentinel, .sentinel, .sentinel, .sentinel, .sentinel, .sentinel, .sentinel, .sentinel, .sentinel, .sentinel, .sentinel, .pinned], laidTests := true, laidLooks := .later }
def TreeDeepCardSaid : Prop := Claim7.holds Tryz.pinned (.plain (OpenSpec.ofChange treeDeepSpec)) treeDeepCard

/-- THE TIED CARD OF 'breviarylaw19.TreeMany'. -/
def treeManyCard : Claim7 := { stood := { row := treeManyRow, standIns := [], harness := (true, "f48e1ab321c1d3fd1f4d854e0e995435a6ae0131400cf04b0e3836c5e63fc359"), looks := true }, kinds := [], alts := [], laidByText := true, laidKinds := [.data, .data, .data, .data, .sentinel, .sentinel, .sentinel, .sentinel, .sentinel, .sentinel, .sentinel, .sentinel, .sentinel, .sentinel, .sentinel, .sentinel, .sentinel, .sentinel, .sentinel, .sentinel, .sentinel, .sentinel, .sentinel, .sentinel, .sentinel, .sentinel, .sentinel, .sentinel, .pinned], laidTests := true, laidLooks := .later }
def TreeManyCardSaid : Prop := Claim7.holds Tryz.pinned (.plain (OpenSpec.ofChange treeManySpec)) treeManyCard

/-- THE SECOND FORM's CARD OF 'breviarylaw19.TreeRings'. -/
def treeRingsUptoCard : Claim7 := { stood := { row := treeRingsUptoRow, standIns := [], harness := (true, "f48e1ab321c1d3fd1f4d854e0e995435a6ae0131400cf04b0e3836c5e63fc359"), looks := true }, kinds := [], alts := [], laidByText := true, laidKinds := [.data, .sentinel, .sentinel, .sentinel, .sentinel, .sentinel, .sentinel, .sentinel, .sentinel, .sentinel, .sentinel, .sentinel, .sentinel, .sentinel, .sentinel, .sentinel, .sentinel, .sentinel, .sentinel, .sentinel, .sentinel, .sentinel, .sentinel, .sentinel, .sentinel, .pinned], laidTests := true, laidLooks := .later }
def TreeRingsUptoCardSaid : Prop := Claim7.holds Tryz.pinned (.plain (OpenSpec.upto treeRingsSpec)) treeRingsUptoCard

/-- THE SECOND FORM's CARD OF 'breviarylaw19.TreeOver'. -/
def treeOverUptoCard : Claim7 := { stood := { row := treeOverUptoRow, standIns := [], harness := (true, "f48e1ab321c1d3fd1f4d854e0e995435a6ae0131400cf04b0e3836c5e63fc359"), looks := true }, kinds := [], alts := [], laidByText := true, laidKinds := [.data, .sentinel, .sentinel, .sentinel, .sentinel, .sentinel, .sentinel, .sentinel, .sentinel, .sentinel, .sentinel, .sentinel, .sentinel, .sentinel, .sentinel, .sentinel, .sentinel, .sentinel, .sentinel, .sentinel, .sentinel, .sentinel, .sentinel, .sentinel, .sentinel, .pinned], laidTests := true, laidLooks := .later }
def TreeOverUptoCardSaid : Prop := Claim7.holds Tryz.pinned (.plain (OpenSpec.upto treeOverSpec)) treeOverUptoCard

/-- THE SECOND FORM's CARD OF 'breviarylaw19.TreeLinks'. -/
def treeLinksUptoCard : Claim7 := { stood := { row := treeLinksUptoRow, standIns := [], harness := (true, "f48e1ab321c1d3fd1f4d854e0e995435a6ae0131400cf04b0e3836c5e63fc359"), looks := true }, kinds := [], alts := [], laidByText := true, laidKinds := [.data, .sentinel, .sentinel, .sentinel, .sentinel, .sentinel, .sentinel, .sentinel, .sentinel, .sentinel, .sentinel, .sentinel, .sentinel, .sentinel, .sentinel, .sentinel, .sentinel, .sentinel, .sentinel, .sentinel, .sentinel, .sentinel, .sentinel, .sentinel, .sentinel, .pinned], laidTests := true, laidLooks := .later }
def TreeLinksUptoCardSaid : Prop := Claim7.holds Tryz.pinned (.plain (OpenSpec.upto treeLinksSpec)) treeLinksUptoCard

/-- THE SECOND FORM's CARD OF 'breviarylaw19.TreeRefuses'. -/
def treeRefusesUptoCard : Claim7 := { stood := { row := treeRefusesUptoRow, standIns := [], harness := (true, "f48e1ab321c1d3fd1f4d854e0e995435a6ae0131400cf04b0e3836c5e63fc359"), looks := true }, kinds := [], alts := [], laidByText := true, laidKinds := [.data, .sentinel, .sentinel, .sentinel, .sentinel, .sentinel, .sentinel, .sentinel, .sentinel, .sentinel, .sentinel, .sentinel, .sentinel, .sentinel, .sentinel, .sentinel, .sentinel, .sentinel, .sentinel, .sentinel, .sentinel, .sentinel, .sentinel, .sentinel, .sentinel, .pinned], laidTests := true, laidLooks := .later }
def TreeRefusesUptoCardSaid : Prop := Claim7.holds Tryz.pinned (.plain (OpenSpec.upto treeRefusesSpec)) treeRefusesUptoCard

/-- THE SECOND FORM's CARD OF 'breviarylaw19.TreeRenames'. -/
def treeRenamesUptoCard : Claim7 := { stood := { row := treeRenamesUptoRow, standIns := [], harness := (true, "f48e1ab321c1d3fd1f4d854e0e995435a6ae0131400cf04b0e3836c5e63fc359"), looks := true }, kinds := [], alts := [], laidByText := true, laidKinds := [.data, .sentinel, .sentinel, .sentinel, .sentinel, .sentinel, .sentinel, .sentinel, .sentinel, .sentinel, .sentinel, .sentinel, .sentinel, .sentinel, .sentinel, .sentinel, .sentinel, .sentinel, .sentinel, .sentinel, .sentinel, .sentinel, .sentinel, .sentinel, .sentinel, .pinned], laidTests := true, laidLooks := .later }
def TreeRenamesUptoCardSaid : Prop := Claim7.holds Tryz.pinned (.plain (OpenSpec.upto treeRenamesSpec)) treeRenamesUptoCard

/-- THE SECOND FORM's CARD OF 'breviarylaw19.TreePlays'. -/
def treePlaysUptoCard : Claim7 := { stood := { row := treePlaysUptoRow, standIns := [], harness := (true, "f48e1ab321c1d3fd1f4d854e0e995435a6ae0131400cf04b0e3836c5e63fc359"), looks := true }, kinds := [], alts := [], laidByText := true, laidKinds := [.data, .sentinel, .sentinel, .sentinel, .sentinel, .sentinel, .sentinel, .sentinel, .sentinel, .sentinel, .sentinel, .sentinel, .sentinel, .sentinel, .sentinel, .sentinel, .sentinel, .sentinel, .sentinel, .sentinel, .sentinel, .sentinel, .sentinel, .sentinel, .sentinel, .pinned], laidTests := true, laidLooks := .later }
def TreePlaysUptoCardSaid : Prop := Claim7.holds Tryz.pinned (.plain (OpenSpec.upto treePlaysSpec)) treePlaysUptoCard

/-- THE SECOND FORM's CARD OF 'breviarylaw19.TreeDeep'. -/
def treeDeepUptoCard : Claim7 := { stood := { row := treeDeepUptoRow, standIns := [], harness := (true, "f48e1ab321c1d3fd1f4d854e0e995435a6ae0131400cf04b0e3836c5e63fc359"), looks := true }, kinds := [], alts := [], laidByText := true, laidKinds := [.data, .data, .data, .data, .sentinel, .sentinel, .sentinel, .sentinel, .sentinel, .sentinel, .sentinel, .sentinel, .sentinel, .sentinel, .sentinel, .sentinel, .sentinel, .sentinel, .sentinel, .sentinel, .sentinel, .sentinel, .sentinel, .sentinel, .sentinel, .sentinel, .sentinel, .sentinel, .pinned], laidTests := true, laidLooks := .later }
def TreeDeepUptoCardSaid : Prop := Claim7.holds Tryz.pinned (.plain (OpenSpec.upto treeDeepSpec)) treeDeepUptoCard

/-- THE SECOND FORM's CARD OF 'breviarylaw19.TreeMany'. -/
def treeManyUptoCard : Claim7 := { stood := { row := treeManyUptoRow, standIns := [], harness := (true, "f48e1ab321c1d3fd1f4d854e0e995435a6ae0131400cf04b0e3836c5e63fc359"), looks := true }, kinds := [], alts := [], laidByText := true, laidKinds := [.data, .data, .data, .data, .sentinel, .sentinel, .sentinel, .sentinel, .sentinel, .sentinel, .sentinel, .sentinel, .sentinel, .sentinel, .sentinel, .sentinel, .sentinel, .sentinel, .sentinel, .sentinel, .sentinel, .sentinel, .sentinel, .sentinel, .sentinel, .sentinel, .sentinel, .sentinel, .pinned], laidTests := true, laidLooks := .later }
def TreeManyUptoCardSaid : Prop := Claim7.holds Tryz.pinned (.plain (OpenSpec.upto treeManySpec)) treeManyUptoCard
end Rows
end Go.Proofs.YtjmbilbkmcebeaaGreatDoor
