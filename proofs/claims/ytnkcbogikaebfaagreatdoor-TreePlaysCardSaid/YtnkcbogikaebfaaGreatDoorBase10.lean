/- Merged texts: BodySet Bytes. -/
import Derived.Test.YtnkcbogikaebfaaGreatDoorBase09
import Derived.Test.YtnkcbogikaebfaaGreatDoorBase01
import Derived.Laws.CopyOwn
import Derived.Shelf.SlMaps.Clone
section
/- The walks of package body: Get of what is there, Set, Lose, Del, Clean, Clone. -/
namespace Go.Proofs.YtnkcbogikaebfaaGreatDoor
open Go Go.RowKit
set_option maxRecDepth 100000
set_option linter.unusedSimpArgs false
attribute [local go_sem] giv
variable {E : Nat → Addr} {B : Nat}

section
variable {w : World} {M : Nat → Prop} {b m d : Nat} {g : Cl → Option (Option (List Int))} {gd : Cl → Option Int} {n k : Nat}

/-- May a cell be? -/
def cellOk (c : Cl) : Prop := 1 ≤ c.1 ∧ c.1 ≤ 16777215 ∧ 0 ≤ c.2 ∧ c.2 < 64
/-- A slice of bytes, as it is read. -/
def SlIn (w : World) (sp : Option Addr) (l : List Int) : Prop := 0 < l.length → ∃ ad, sp = some ad ∧ ∀ j v, (l.map (Value.int .u8))[j]? = some v → w.cell? (ad.add j) = some v ∧ (ad.add j).block < w.heap.size
/-- Bytes made up to a block. -/
def pad (l : List Int) : List Int := l ++ List.replicate (256 - l.length) 0
end
end Go.Proofs.YtnkcbogikaebfaaGreatDoor
end

section
/- Slices of bytes as lists; the reference's Full, SameBytes, Bytes. -/
namespace Go.Proofs.YtnkcbogikaebfaaGreatDoor
open Go Go.RowKit
set_option maxRecDepth 100000
set_option linter.unusedSimpArgs false
attribute [local go_sem] giv

/-- v reads as the bytes l. -/
def RdB (w : World) (v : Value) (l : List Int) : Prop :=
  ∃ sp cap, v = .slice sp l.length cap ∧ (l = [] ∨ ∃ h off, sp = some ⟨h, off, none⟩ ∧ h < w.heap.size ∧ ∀ i, i < l.length → w.cell? ⟨h, off + i, none⟩ = some (.int .u8 (l.getD i 0)))
/-- The first j bytes, made up to 256. -/
def part (l : List Int) (j : Nat) : List Value := (l.take j).map (Value.int .u8) ++ List.replicate (256 - j) (.int .u8 0)
end Go.Proofs.YtnkcbogikaebfaaGreatDoor
end
