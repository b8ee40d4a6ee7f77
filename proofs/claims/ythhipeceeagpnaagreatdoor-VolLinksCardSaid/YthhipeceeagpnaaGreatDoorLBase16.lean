/- Merged texts: Leaves. -/
import Derived.Test.YthhipeceeagpnaaGreatDoorLBase14
import Derived.Test.YthhipeceeagpnaaGreatDoorLBase15
import Derived.Deep.Slices
section
/- Arguments that are slices of structs whose leaves are ints, strings, bools and slices of bytes: what their reading gives. -/
namespace Go.Proofs.YthhipeceeagpnaaGreatDoor
open Go Go.RowKit Go.ChangeShapes Go.WideShapes Go.Deep
set_option maxRecDepth 100000

inductive LeafK where
  | int (k : IntKind)
  | str
  | bool
  | bytes

def fieldLeaves (P : Program) (rec : TypeId → Option (List LeafK)) : List Field → Nat → Option (List LeafK)
  | [], _ => some []
  | f :: fs, o => (rec f.type).bind fun a => if f.offset = o ∧ P.cellsOf f.type = a.length then (fieldLeaves P rec fs (o + a.length)).map (a ++ ·) else none
/-- The cells of a type, flat. -/
def leavesOf (P : Program) : Nat → TypeId → Option (List LeafK)
  | 0, _ => none
  | n + 1, t =>
    match P.underlying t with
    | some (.int k) => some [.int k]
    | some .string => some [.str]
    | some .bool => some [.bool]
    | some (.slice e) =>
      match P.underlying e with
      | some (.int .u8) => if P.cellsOf e = 1 then some [.bytes] else none
      | _ => none
    | some (.struct fs) => (fieldLeaves P (leavesOf P n) fs.toList 0).bind fun ks => if P.cellsOf t = ks.length then some ks else none
    | _ => none

/-- v reads as the bytes l (of any program). -/
def LeafOk (W : World) : LeafK → Value → Prop
  | .int k, v => ∃ n, v = .int k n ∧ (Lit.int k n).wf = true
  | .str, v => ∃ s, v = .string s ∧ s.size ≤ maxLen
  | .bool, v => ∃ b, v = .bool b
  | .bytes, v => ∃ sp cap l, v = .slice sp l.length cap ∧ RdB W (.slice sp l.length cap) l ∧ (l ≠ [] → ∀ h off s, sp = some ⟨h, off, s⟩ → h < W.heap.size) ∧ (∀ x ∈ l, 0 ≤ x ∧ x ≤ 255) ∧ l.length ≤ maxLen
def LeafsOk (W : World) : List LeafK → List Value → Prop
  | [], cs => cs = []
  | k :: ks, cs => ∃ v rest, cs = v :: rest ∧ LeafOk W k v ∧ LeafsOk W ks rest

section
variable {P : Program} {H : Type} {enc' : TypeId × Value → H} {W : World}

end
end Go.Proofs.YthhipeceeagpnaaGreatDoor
end
