/-
  DERIVED. GIVEN WITH THE SEED: THE CARDS: each row of YthominkfjfnkbaaDoorRows.lean that lists a variable, with what it lists TIED to the program's text (the seventh form; the later family's looks); each row that meets fmt, with fmt's text TOLD by the authors' own Lean function (tested against real Go, not proved from fmt's source: count such statements apart). THE CARD IS WHAT COUNTS. Prove the row's statement (the work); the ties are given (YthominkfjfnkbaaDoorTie.lean); close each card by the builder's one call (the guide's Derived/Test/ToyasCard.lean, 'card_holds'). Laid BY PROGRAM, IN A SANDBOX (cutbox-door.mjs). By AI agents, Wed Nov 11 2026. No macro, syntax, notation, axiom, sorry.
-/
import Derived.Test.YthominkfjfnkbaaDoorRows
import GoSem.ClaimSeven
namespace Go.Proofs.YthominkfjfnkbaaDoor
namespace Rows

/-- THE TIED CARD OF 'breviarylaw20.OpenPlaces'. -/
def openPlacesCard : Claim7 := { stood := { row := openPlacesRow, standIns := [], harness := (true, "8752985f39927cfa45192cc4aa8231c3d059f1d129d8e456486dff9a7e29d1f6"), looks := true }, kinds := [], alts := [], laidByText := true, laidKinds := [.sentinel, .sentinel, .sentinel, .sentinel, .sentinel, .sentinel, .sentinel, .sentinel, .sentinel, .sentinel, .sentinel, .sentinel, .sentinel, .sentinel, .sentinel, .sentinel, .sentinel, .sentinel, .sentinel, .sentinel, .sentinel, .sentinel, .sentinel, .sentinel], laidTests := true, laidLooks := .later }
def OpenPlacesCardSaid : Prop := Claim7.holds Tryd.pinned (.plain (OpenSpec.ofChange openPlacesSpec)) openPlacesCard

/-- THE TIED CARD OF 'breviarylaw15.NodeKinds'. -/
def nodeKindsCard : Claim7 := { stood := { row := nodeKindsRow, standIns := [], harness := (true, "8752985f39927cfa45192cc4aa8231c3d059f1d129d8e456486dff9a7e29d1f6"), looks := true }, kinds := [], alts := [], laidByText := true, laidKinds := [.sentinel, .sentinel, .sentinel, .sentinel, .sentinel, .sentinel, .sentinel, .sentinel, .sentinel, .sentinel, .sentinel, .sentinel, .sentinel, .sentinel, .sentinel, .sentinel, .sentinel, .sentinel, .sentinel, .sentinel, .sentinel, .sentinel, .sentinel, .sentinel], laidTests := true, laidLooks := .later }
def NodeKindsCardSaid : Prop := Claim7.holds Tryd.pinned (.plain (OpenSpec.ofChange nodeKindsSpec)) nodeKindsCard

/-- THE TIED CARD OF 'breviarylaw15.NodeMany'. -/
def nodeManyCard : Claim7 := { stood := { row := nodeManyRow, standIns := [], harness := (true, "8752985f39927cfa45192cc4aa8231c3d059f1d129d8e456486dff9a7e29d1f6"), looks := true }, kinds := [], alts := [], laidByText := true, laidKinds := [.sentinel, .sentinel, .sentinel, .sentinel, .sentinel, .sentinel, .sentinel, .sentinel, .sentinel, .sentinel, .sentinel, .sentinel, .sentinel, .sentinel, .sentinel, .sentinel, .sentinel, .sentinel, .sentinel, .sentinel, .sentinel, .sentinel, .sentinel, .sentinel], laidTests := true, laidLooks := .later }
def NodeManyCardSaid : Prop := Claim7.holds Tryd.pinned (.plain (OpenSpec.ofChange nodeManySpec)) nodeManyCard

/-- THE TIED CARD OF 'breviarylaw16.BodyOwn'. -/
def bodyOwnCard : Claim7 := { stood := { row := bodyOwnRow, standIns := [], harness := (true, "8752985f39927cfa45192cc4aa8231c3d059f1d129d8e456486dff9a7e29d1f6"), looks := true }, kinds := [], alts := [], laidByText := true, laidKinds := [.sentinel, .sentinel, .sentinel, .sentinel, .sentinel, .sentinel, .sentinel, .sentinel, .sentinel, .sentinel, .sentinel, .sentinel, .sentinel, .sentinel, .sentinel, .sentinel, .sentinel, .sentinel, .sentinel, .sentinel, .sentinel, .sentinel, .sentinel, .sentinel], laidTests := true, laidLooks := .later }
def BodyOwnCardSaid : Prop := Claim7.holds Tryd.pinned (.plain (OpenSpec.ofChange bodyOwnSpec)) bodyOwnCard

/-- THE TIED CARD OF 'breviarylaw11.NameBounds'. -/
def nameBoundsCard : Claim7 := { stood := { row := nameBoundsRow, standIns := [], harness := (true, "8752985f39927cfa45192cc4aa8231c3d059f1d129d8e456486dff9a7e29d1f6"), looks := true }, kinds := [], alts := [], laidByText := true, laidKinds := [.sentinel, .sentinel, .sentinel, .sentinel, .sentinel, .sentinel, .sentinel, .sentinel, .sentinel, .sentinel, .sentinel, .sentinel, .sentinel, .sentinel, .sentinel, .sentinel, .sentinel, .sentinel, .sentinel, .sentinel, .sentinel, .sentinel, .sentinel, .sentinel], laidTests := true, laidLooks := .later }
def NameBoundsCardSaid : Prop := Claim7.holds Tryd.pinned (.plain (OpenSpec.ofChange nameBoundsSpec)) nameBoundsCard

/-- THE TIED CARD OF 'breviarylaw20.OpenLeast'. -/
def openLeastCard : Claim7 := { stood := { row := openLeastRow, standIns := [], harness := (true, "8752985f39927cfa45192cc4aa8231c3d059f1d129d8e456486dff9a7e29d1f6"), looks := true }, kinds := [], alts := [], laidByText := true, laidKinds := [.sentinel, .sentinel, .sentinel, .sentinel, .sentinel, .sentinel, .sentinel, .sentinel, .sentinel, .sentinel, .sentinel, .sentinel, .sentinel, .sentinel, .sentinel, .sentinel, .sentinel, .sentinel, .sentinel, .sentinel, .sentinel, .sentinel, .sentinel, .sentinel], laidTests := true, laidLooks := .later }
def OpenLeastCardSaid : Prop := Claim7.holds Tryd.pinned (.plain (OpenSpec.ofChange openLeastSpec)) openLeastCard

/-- THE TIED CARD OF 'breviarylaw15.NodePlays'. -/
def nodePlaysCard : Claim7 := { stood := { row := nodePlaysRow, standIns := [], harness := (true, "8752985f39927cfa45192cc4aa8231c3d059f1d129d8e456486dff9a7e29d1f6"), looks := true }, kinds := [], alts := [], laidByText := true, laidKinds := [.sentinel, .sentinel, .sentinel, .sentinel, .sentinel, .sentinel, .sentinel, .sentinel, .sentinel, .sentinel, .sentinel, .sentinel, .sentinel, .sentinel, .sentinel, .sentinel, .sentinel, .sentinel, .sentinel, .sentinel, .sentinel, .sentinel, .sentinel, .sentinel], laidTests := true, laidLooks := .later }
def NodePlaysCardSaid : Prop := Claim7.holds Tryd.pinned (.plain (OpenSpec.ofChange nodePlaysSpec)) nodePlaysCard

/-- THE TIED CARD OF 'breviarylaw14.DirOwn'. -/
def dirOwnCard : Claim7 := { stood := { row := dirOwnRow, standIns := [], harness := (true, "8752985f39927cfa45192cc4aa8231c3d059f1d129d8e456486dff9a7e29d1f6"), looks := true }, kinds := [], alts := [], laidByText := true, laidKinds := [.sentinel, .sentinel, .sentinel, .sentinel, .sentinel, .sentinel, .sentinel, .sentinel, .sentinel, .sentinel, .sentinel, .sentinel, .sentinel, .sentinel, .sentinel, .sentinel, .sentinel, .sentinel, .sentinel, .sentinel, .sentinel, .sentinel, .sentinel, .sentinel], laidTests := true, laidLooks := .later }
def DirOwnCardSaid : Prop := Claim7.holds Tryd.pinned (.plain (OpenSpec.ofChange dirOwnSpec)) dirOwnCard

/-- THE TIED CARD OF 'breviarylaw11.NameSorts'. -/
def nameSortsCard : Claim7 := { stood := { row := nameSortsRow, standIns := [], harness := (true, "8752985f39927cfa45192cc4aa8231c3d059f1d129d8e456486dff9a7e29d1f6"), looks := true }, kinds := [], alts := [], laidByText := true, laidKinds := [.sentinel, .sentinel, .sentinel, .sentinel, .sentinel, .sentinel, .sentinel, .sentinel, .sentinel, .sentinel, .sentinel, .sentinel, .sentinel, .sentinel, .sentinel, .sentinel, .sentinel, .sentinel, .sentinel, .sentinel, .sentinel, .sentinel, .sentinel, .sentinel], laidTests := true, laidLooks := .later }
def NameSortsCardSaid : Prop := Claim7.holds Tryd.pinned (.plain (OpenSpec.ofChange nameSortsSpec)) nameSortsCard

/-- THE TIED CARD OF 'breviarylaw11.NameSays'. -/
def nameSaysCard : Claim7 := { stood := { row := nameSaysRow, standIns := [], harness := (true, "8752985f39927cfa45192cc4aa8231c3d059f1d129d8e456486dff9a7e29d1f6"), looks := true }, kinds := [], alts := [], laidByText := true, laidKinds := [.sentinel, .sentinel, .sentinel, .sentinel, .sentinel, .sentinel, .sentinel, .sentinel, .sentinel, .sentinel, .sentinel, .sentinel, .sentinel, .sentinel, .sentinel, .sentinel, .sentinel, .sentinel, .sentinel, .sentinel, .sentinel, .sentinel, .sentinel, .sentinel], laidTests := true, laidLooks := .later }
def NameSaysCardSaid : Prop := Claim7.holds Tryd.pinned (.plain (OpenSpec.ofChange nameSaysSpec)) nameSaysCard

/-- THE TIED CARD OF 'breviarylaw14.DirPlays'. -/
def dirPlaysCard : Claim7 := { stood := { row := dirPlaysRow, standIns := [], harness := (true, "8752985f39927cfa45192cc4aa8231c3d059f1d129d8e456486dff9a7e29d1f6"), looks := true }, kinds := [], alts := [], laidByText := true, laidKinds := [.sentinel, .sentinel, .sentinel, .sentinel, .sentinel, .sentinel, .sentinel, .sentinel, .sentinel, .sentinel, .sentinel, .sentinel, .sentinel, .sentinel, .sentinel, .sentinel, .sentinel, .sentinel, .sentinel, .sentinel, .sentinel, .sentinel, .sentinel, .sentinel], laidTests := true, laidLooks := .later }
def DirPlaysCardSaid : Prop := Claim7.holds Tryd.pinned (.plain (OpenSpec.ofChange dirPlaysSpec)) dirPlaysCard

/-- THE TIED CARD OF 'breviarylaw14.DirTurns'. -/
def dirTurnsCard : Claim7 := { stood := { row := dirTurnsRow, standIns := [], harness := (true, "8752985f39927cfa45192cc4aa8231c3d059f1d129d8e456486dff9a7e29d1f6"), looks := true }, kinds := [], alts := [], laidByText := true, laidKinds := [.data, .data, .data, .sentinel, .sentinel, .sentinel, .sentinel, .sentinel, .sentinel, .sentinel, .sentinel, .sentinel, .sentinel, .sentinel, .sentinel, .sentinel, .sentinel, .sentinel, .sentinel, .sentinel, .sentinel, .sentinel, .sentinel, .sentinel, .sentinel, .sentinel, .sentinel], laidTests := true, laidLooks := .later }
def DirTurnsCardSaid : Prop := Claim7.holds Tryd.pinned (.plain (OpenSpec.ofChange dirTurnsSpec)) dirTurnsCard

/-- THE TIED CARD OF 'breviarylaw16.BodyLost'. -/
def bodyLostCard : Claim7 := { stood := { row := bodyLostRow, standIns := [], harness := (true, "8752985f39927cfa45192cc4aa8231c3d059f1d129d8e456486dff9a7e29d1f6"), looks := true }, kinds := [], alts := [], laidByText := true, laidKinds := [.sentinel, .sentinel, .sentinel, .sentinel, .sentinel, .sentinel, .sentinel, .sentinel, .sentinel, .sentinel, .sentinel, .sentinel, .sentinel, .sentinel, .sentinel, .sentinel, .sentinel, .sentinel, .sentinel, .sentinel, .sentinel, .sentinel, .sentinel, .sentinel], laidTests := true, laidLooks := .later }
def BodyLostCardSaid : Prop := Claim7.holds Tryd.pinned (.plain (OpenSpec.ofChange bodyLostSpec)) bodyLostCard

/-- THE TIED CARD OF 'breviarylaw16.BodyPlays'. -/
def bodyPlaysCard : Claim7 := { stood := { row := bodyPlaysRow, standIns := [], harness := (true, "8752985f39927cfa45192cc4aa8231c3d059f1d129d8e456486dff9a7e29d1f6"), looks := true }, kinds := [], alts := [], laidByText := true, laidKinds := [.sentinel, .sentinel, .sentinel, .sentinel, .sentinel, .sentinel, .sentinel, .sentinel, .sentinel, .sentinel, .sentinel, .sentinel, .sentinel, .sentinel, .sentinel, .sentinel, .sentinel, .sentinel, .sentinel, .sentinel, .sentinel, .sentinel, .sentinel, .sentinel], laidTests := true, laidLooks := .later }
def BodyPlaysCardSaid : Prop := Claim7.holds Tryd.pinned (.plain (OpenSpec.ofChange bodyPlaysSpec)) bodyPlaysCard

/-- THE SECOND FORM's CARD OF 'breviarylaw20.OpenPlaces'. -/
def openPlacesUptoCard : Claim7 := { stood := { row := openPlacesUptoRow, standIns := [], harness := (true, "8752985f39927cfa45192cc4aa8231c3d059f1d129d8e456486dff9a7e29d1f6"), looks := true }, kinds := [], alts := [], laidByText := true, laidKinds := [.sentinel, .sentinel, .sentinel, .sentinel, .sentinel, .sentinel, .sentinel, .sentinel, .sentinel, .sentinel, .sentinel, .sentinel, .sentinel, .sentinel, .sentinel, .sentinel, .sentinel, .sentinel, .sentinel, .sentinel, .sentinel, .sentinel, .sentinel, .sentinel], laidTests := true, laidLooks := .later }
def OpenPlacesUptoCardSaid : Prop := Claim7.holds Tryd.pinned (.plain (OpenSpec.upto openPlacesSpec)) openPlacesUptoCard

/-- THE SECOND FORM's CARD OF 'breviarylaw15.NodeKinds'. -/
def nodeKindsUptoCard : Claim7 := { stood := { row := nodeKindsUptoRow, standIns := [], harness := (true, "8752985f39927cfa45192cc4aa8231c3d059f1d129d8e456486dff9a7e29d1f6"), looks := true }, kinds := [], alts := [], laidByText := true, laidKinds := [.sentinel, .sentinel, .sentinel, .sentinel, .sentinel, .sentinel, .sentinel, .sentinel, .sentinel, .sentinel, .sentinel, .sentinel, .sentinel, .sentinel, .sentinel, .sentinel, .sentinel, .sentinel, .sentinel, .sentinel, .sentinel, .sentinel, .sentinel, .sentinel], laidTests := true, laidLooks := .later }
def NodeKindsUptoCardSaid : Prop := Claim7.holds Tryd.pinned (.plain (OpenSpec.upto nodeKindsSpec)) nodeKindsUptoCard

/-- THE SECOND FORM's CARD OF 'breviarylaw15.NodeMany'. -/
def nodeManyUptoCard : Claim7 := { stood := { row := nodeManyUptoRow, standIns := [], harness := (true, "8752985f39927cfa45192cc4aa8231c3d059f1d129d8e456486dff9a7e29d1f6"), looks := true }, kinds := [], alts := [], laidByText := true, laidKinds := [.sentinel, .sentinel, .sentinel, .sentinel, .sentinel, .sentinel, .sentinel, .sentinel, .sentinel, .sentinel, .sentinel, .sentinel, .sentinel, .sentinel, .sentinel, .sentinel, .sentinel, .sentinel, .sentinel, .sentinel, .sentinel, .sentinel, .sentinel, .sentinel], laidTests := true, laidLooks := .later }
def NodeManyUptoCardSaid : Prop := Claim7.holds Tryd.pinned (.plain (OpenSpec.upto nodeManySpec)) nodeManyUptoCard

/-- THE SECOND FORM's CARD OF 'breviarylaw16.BodyOwn'. -/
def bodyOwnUptoCard : Claim7 := { stood := { row := bodyOwnUptoRow, standIns := [], harness := (true, "8752985f39927cfa45192cc4aa8231c3d059f1d129d8e456486dff9a7e29d1f6"), looks := true }, kinds := [], alts := [], laidByText := true, laidKinds := [.sentinel, .sentinel, .sentinel, .sentinel, .sentinel, .sentinel, .sentinel, .sentinel, .sentinel, .sentinel, .sentinel, .sentinel, .sentinel, .sentinel, .sentinel, .sentinel, .sentinel, .sentinel, .sentinel, .sentinel, .sentinel, .sentinel, .sentinel, .sentinel], laidTests := true, laidLooks := .later }
def BodyOwnUptoCardSaid : Prop := Claim7.holds Tryd.pinned (.plain (OpenSpec.upto bodyOwnSpec)) bodyOwnUptoCard

/-- THE SECOND FORM's CARD OF 'breviarylaw11.NameBounds'. -/
def nameBoundsUptoCard : Claim7 := { stood := { row := nameBoundsUptoRow, standIns := [], harness := (true, "8752985f39927cfa45192cc4aa8231c3d059f1d129d8e456486dff9a7e29d1f6"), looks := true }, kinds := [], alts := [], laidByText := true, laidKinds := [.sentinel, .sentinel, .sentinel, .sentinel, .sentinel, .sentinel, .sentinel, .sentinel, .sentinel, .sentinel, .sentinel, .sentinel, .sentinel, .sentinel, .sentinel, .sentinel, .sentinel, .sentinel, .sentinel, .sentinel, .sentinel, .sentinel, .sentinel, .sentinel], laidTests := true, laidLooks := .later }
def NameBoundsUptoCardSaid : Prop := Claim7.holds Tryd.pinned (.plain (OpenSpec.upto nameBoundsSpec)) nameBoundsUptoCard

/-- THE SECOND FORM's CARD OF 'breviarylaw20.OpenLeast'. -/
def openLeastUptoCard : Claim7 := { stood := { row := openLeastUptoRow, standIns := [], harness := (true, "8752985f39927cfa45192cc4aa8231c3d059f1d129d8e456486dff9a7e29d1f6"), looks := true }, kinds := [], alts := [], laidByText := true, laidKinds := [.sentinel, .sentinel, .sentinel, .sentinel, .sentinel, .sentinel, .sentinel, .sentinel, .sentinel, .sentinel, .sentinel, .sentinel, .sentinel, .sentinel, .sentinel, .sentinel, .sentinel, .sentinel, .sentinel, .sentinel, .sentinel, .sentinel, .sentinel, .sentinel], laidTests := true, laidLooks := .later }
def OpenLeastUptoCardSaid : Prop := Claim7.holds Tryd.pinned (.plain (OpenSpec.upto openLeastSpec)) openLeastUptoCard

/-- THE SECOND FORM's CARD OF 'breviarylaw15.NodePlays'. -/
def nodePlaysUptoCard : Claim7 := { stood := { row := nodePlaysUptoRow, standIns := [], harness := (true, "8752985f39927cfa45192cc4aa8231c3d059f1d129d8e456486dff9a7e29d1f6"), looks := true }, kinds := [], alts := [], laidByText := true, laidKinds := [.sentinel, .sentinel, .sentinel, .sentinel, .sentinel, .sentinel, .sentinel, .sentinel, .sentinel, .sentinel, .sentinel, .sentinel, .sentinel, .sentinel, .sentinel, .sentinel, .sentinel, .sentinel, .sentinel, .sentinel, .sentinel, .sentinel, .sentinel, .sentinel], laidTests := true, laidLooks := .later }
def NodePlaysUptoCardSaid : Prop := Claim7.holds Tryd.pinned (.plain (OpenSpec.upto nodePlaysSpec)) nodePlaysUptoCard

/-- THE SECOND FORM's CARD OF 'breviarylaw14.DirOwn'. -/
def dirOwnUptoCard : Claim7 := { stood := { row := dirOwnUptoRow, standIns := [], harness := (true, "8752985f39927cfa45192cc4aa8231c3d059f1d129d8e456486dff9a7e29d1f6"), looks := true }, kinds := [], alts := [], laidByText := true, laidKinds := [.sentinel, .sentinel, .sentinel, .sentinel, .sentinel, .sentinel, .sentinel, .sentinel, .sentinel, .sentinel, .sentinel, .sentinel, .sentinel, .sentinel, .sentinel, .sentinel, .sentinel, .sentinel, .sentinel, .sentinel, .sentinel, .sentinel, .sentinel, .sentinel], laidTests := true, laidLooks := .later }
def DirOwnUptoCardSaid : Prop := Claim7.holds Tryd.pinned (.plain (OpenSpec.upto dirOwnSpec)) dirOwnUptoCard

/-- THE SECOND FORM's CARD OF 'breviarylaw11.NameSorts'. -/
def nameSortsUptoCard : Claim7 := { stood := { row := nameSortsUptoRow, standIns := [], harness := (true, "8752985f39927cfa45192cc4aa8231c3d059f1d129d8e456486dff9a7e29d1f6"), looks := true }, kinds := [], alts := [], laidByText := true, laidKinds := [.sentinel, .sentinel, .sentinel, .sentinel, .sentinel, .sentinel, .sentinel, .sentinel, .sentinel, .sentinel, .sentinel, .sentinel, .sentinel, .sentinel, .sentinel, .sentinel, .sentinel, .sentinel, .sentinel, .sentinel, .sentinel, .sentinel, .sentinel, .sentinel], laidTests := true, laidLooks := .later }
def NameSortsUptoCardSaid : Prop := Claim7.holds Tryd.pinned (.plain (OpenSpec.upto nameSortsSpec)) nameSortsUptoCard

/-- THE SECOND FORM's CARD OF 'breviarylaw11.NameSays'. -/
def nameSaysUptoCard : Claim7 := { stood := { row := nameSaysUptoRow, standIns := [], harness := (true, "8752985f39927cfa45192cc4aa8231c3d059f1d129d8e456486dff9a7e29d1f6"), looks := true }, kinds := [], alts := [], laidByText := true, laidKinds := [.sentinel, .sentinel, .sentinel, .sentinel, .sentinel, .sentinel, .sentinel, .sentinel, .sentinel, .sentinel, .sentinel, .sentinel, .sentinel, .sentinel, .sentinel, .sentinel, .sentinel, .sentinel, .sentinel, .sentinel, .sentinel, .sentinel, .sentinel, .sentinel], laidTests := true, laidLooks := .later }
def NameSaysUptoCardSaid : Prop := Claim7.holds Tryd.pinned (.plain (OpenSpec.upto nameSaysSpec)) nameSaysUptoCard

/-- THE SECOND FORM's CARD OF 'breviarylaw14.DirPlays'. -/
def dirPlaysUptoCard : Claim7 := { stood := { row := dirPlaysUptoRow, standIns := [], harness := (true, "8752985f39927cfa45192cc4aa8231c3d059f1d129d8e456486dff9a7e29d1f6"), looks := true }, kinds := [], alts := [], laidByText := true, laidKinds := [.sentinel, .sentinel, .sentinel, .sentinel, .sentinel, .sentinel, .sentinel, .sentinel, .sentinel, .sentinel, .sentinel, .sentinel, .sentinel, .sentinel, .sentinel, .sentinel, .sentinel, .sentinel, .sentinel, .sentinel, .sentinel, .sentinel, .sentinel, .sentinel], laidTests := true, laidLooks := .later }
def DirPlaysUptoCardSaid : Prop := Claim7.holds Tryd.pinned (.plain (OpenSpec.upto dirPlaysSpec)) dirPlaysUptoCard

/-- THE SECOND FORM's CARD OF 'breviarylaw14.DirTurns'. -/
def dirTurnsUptoCard : Claim7 := { stood := { row := dirTurnsUptoRow, standIns := [], harness := (true, "8752985f39927cfa45192cc4aa8231c3d059f1d129d8e456486dff9a7e29d1f6"), looks := true }, kinds := [], alts := [], laidByText := true, laidKinds := [.data, .data, .data, .sentinel, .sentinel, .sentinel, .sentinel, .sentinel, .sentinel, .sentinel, .sentinel, .sentinel, .sentinel, .sentinel, .sentinel, .sentinel, .sentinel, .sentinel, .sentinel, .sentinel, .sentinel, .sentinel, .sentinel, .sentinel, .sentinel, .sentinel, .sentinel], laidTests := true, laidLooks := .later }
def DirTurnsUptoCardSaid : Prop := Claim7.holds Tryd.pinned (.plain (OpenSpec.upto dirTurnsSpec)) dirTurnsUptoCard

/-- THE SECOND FORM's CARD OF 'breviarylaw16.BodyLost'. -/
def bodyLostUptoCard : Claim7 := { stood := { row := bodyLostUptoRow, standIns := [], harness := (true, "8752985f39927cfa45192cc4aa8231c3d059f1d129d8e456486dff9a7e29d1f6"), looks := true }, kinds := [], alts := [], laidByText := true, laidKinds := [.sentinel, .sentinel, .sentinel, .sentinel, .sentinel, .sentinel, .sentinel, .sentinel, .sentinel, .sentinel, .sentinel, .sentinel, .sentinel, .sentinel, .sentinel, .sentinel, .sentinel, .sentinel, .sentinel, .sentinel, .sentinel, .sentinel, .sentinel, .sentinel], laidTests := true, laidLooks := .later }
def BodyLostUptoCardSaid : Prop := Claim7.holds Tryd.pinned (.plain (OpenSpec.upto bodyLostSpec)) bodyLostUptoCard

/-- THE SECOND FORM's CARD OF 'breviarylaw16.BodyPlays'. -/
def bodyPlaysUptoCard : Claim7 := { stood := { row := bodyPlaysUptoRow, standIns := [], harness := (true, "8752985f39927cfa45192cc4aa8231c3d059f1d129d8e456486dff9a7e29d1f6"), looks := true }, kinds := [], alts := [], laidByText := true, laidKinds := [.sentinel, .sentinel, .sentinel, .sentinel, .sentinel, .sentinel, .sentinel, .sentinel, .sentinel, .sentinel, .sentinel, .sentinel, .sentinel, .sentinel, .sentinel, .sentinel, .sentinel, .sentinel, .sentinel, .sentinel, .sentinel, .sentinel, .sentinel, .sentinel], laidTests := true, laidLooks := .later }
def BodyPlaysUptoCardSaid : Prop := Claim7.holds Tryd.pinned (.plain (OpenSpec.upto bodyPlaysSpec)) bodyPlaysUptoCard
end Rows
end Go.Proofs.YthominkfjfnkbaaDoor
