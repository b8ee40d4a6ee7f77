/-
  No cell of these rows narrows 'for every input' (looked for: loops, veiled, ifaces, maps, wideKeys, modest, calm, conditions, laid).
  DERIVED. THE GIVEN ROWS OF THIS SEAT. 2 by the template 'for every input the law returns true; each argument reads behind the call as it read before'; 0 by the template 'total and deterministic' (their statements: YthominkfjfnkbaaTotals.lean).
  GIVEN WITH THE SEED: the statements are not yours to turn. If you find one false, say at which input.
  Laid BY PROGRAM, IN A SANDBOX (cutbox-rows.mjs): the forced cells as the released guide's own fill.sh prints them over the translation 774aac534d342036… (all of the seat's roots in one cut). By AI agents, Wed Nov 11 2026. No macro, syntax, notation, axiom, sorry.
-/
import Derived.Test.YthominkfjfnkbaaChecked
import GoSem.Claim
import GoSem.ClaimJoined
import GoSem.ClaimMapViews
import Derived.JoinedTies
import Derived.KernelRfl
namespace Go.Proofs.Ythominkfjfnkbaa
/- THE CELL 'sum', in the pinned program and in every row, IS THE sha256 OF THE DUMP (.gsa) THAT YthominkfjfnkbaaProg.lean LOADS. Nothing in Lean hashes anything: it is a label: what it is worth is what the hold of that sum in a sandbox is worth. -/
noncomputable def Try.pinned : Pinned := { name := "ythominkfjfnkbaa", sum := "774aac534d342036e204e653044dad2fc4dd3d8d50ec5b8a2919b6e8f2f69dc7", checked := Try.checked }
namespace Rows
def none {H : Type} : Left H := { results := [], args := [] }

/-- 'breviarylaw17.QuotaSays': WHATEVER THE INPUT: true; the input reads as it did. -/
def quotaSaysSpec : ChangeSpec := { name := "quotaSays", fn := fun _ => fun
  | [d1, d2] => { results := [.lit (.bool true)], args := [d1, d2] }
  | _ => none }
def quotaSaysRow : OpenClaim := { program := "ythominkfjfnkbaa", sum := "774aac534d342036e204e653044dad2fc4dd3d8d50ec5b8a2919b6e8f2f69dc7", func := "breviary/breviarylaw17.QuotaSays", spec := "quotaSays", apart := false }
def QuotaSaysSaid : Prop := quotaSaysRow.holds Try.pinned (OpenSpec.ofChange quotaSaysSpec)

/-- ITS FALSE NEIGHBOUR: 'it returns false'. Refute it at one input. -/
def quotaSaysWrong : ChangeSpec := { name := "quotaSays", fn := fun _ => fun
  | [d1, d2] => { results := [.lit (.bool false)], args := [d1, d2] }
  | _ => none }
def QuotaSaysWrongFalsely : Prop := quotaSaysRow.holds Try.pinned (OpenSpec.ofChange quotaSaysWrong)

/-- 'breviarylaw17.QuotaAdds': WHATEVER THE INPUT: true; the input reads as it did. -/
def quotaAddsSpec : ChangeSpec := { name := "quotaAdds", fn := fun _ => fun
  | [d1, d2, d3, d4] => { results := [.lit (.bool true)], args := [d1, d2, d3, d4] }
  | _ => none }
def quotaAddsRow : OpenClaim := { program := "ythominkfjfnkbaa", sum := "774aac534d342036e204e653044dad2fc4dd3d8d50ec5b8a2919b6e8f2f69dc7", func := "breviary/breviarylaw17.QuotaAdds", spec := "quotaAdds", apart := false }
def QuotaAddsSaid : Prop := quotaAddsRow.holds Try.pinned (OpenSpec.ofChange quotaAddsSpec)

/-- ITS FALSE NEIGHBOUR: 'it returns false'. Refute it at one input. -/
def quotaAddsWrong : ChangeSpec := { name := "quotaAdds", fn := fun _ => fun
  | [d1, d2, d3, d4] => { results := [.lit (.bool false)], args := [d1, d2, d3, d4] }
  | _ => none }
def QuotaAddsWrongFalsely : Prop := quotaAddsRow.holds Try.pinned (OpenSpec.ofChange quotaAddsWrong)

/- THE SECOND FORM. 'bulk': how many values and letters a reading holds, each counted each time it is reached (what is shared counts as often as it is met; a slice's spare places count too). A statement '..UptoSaid' is the law's where the arguments, and the package variables that the reading takes, are together of bulk at most 1048576: NARROWER than '..Said'. Prove '..Said' where nothing that the law and all that it calls make is longer than what came in: it says more and counts as full. Else prove '..UptoSaid'. A law counts once. -/
mutual
def uptoBulk {H : Type} : DataW H → Nat
  | .lit (.string bytes) => bytes.length + 1
  | .lit _ => 1
  | .nil => 1
  | .ptr d => uptoBulk d + 1
  | .slice elems spare => uptoBulkAll elems + uptoBulkAll spare + 1
  | .agg parts => uptoBulkAll parts + 1
  | .iface _ d => uptoBulk d + 1
  | .map entries => uptoBulkEntries entries + 1
  | .held _ => 1
def uptoBulkAll {H : Type} : List (DataW H) → Nat
  | [] => 0
  | d :: r => uptoBulk d + uptoBulkAll r
def uptoBulkEntries {H : Type} : List (Lit × DataW H) → Nat
  | [] => 0
  | x :: r => uptoBulkEntry x + uptoBulkEntries r
def uptoBulkEntry {H : Type} : Lit × DataW H → Nat
  | (.string bytes, d) => bytes.length + uptoBulk d + 1
  | (_, d) => uptoBulk d + 1
 end
def uptoSmall : (H : Type) → List (DataW H) → Bool := fun _ ds => decide (uptoBulkAll ds ≤ 1048576)
def OpenSpec.upto (s : _root_.Go.ChangeSpec) : _root_.Go.OpenSpec := { _root_.Go.OpenSpec.ofChange s with cond := some uptoSmall }

/-- 'breviarylaw17.QuotaSays', WHERE WHAT IT READS IS OF BULK AT MOST 1048576: true; the input reads as it did. -/
def quotaSaysUptoRow : OpenClaim := { program := "ythominkfjfnkbaa", sum := "774aac534d342036e204e653044dad2fc4dd3d8d50ec5b8a2919b6e8f2f69dc7", func := "breviary/breviarylaw17.QuotaSays", spec := "quotaSays", apart := false, narrowed := true }
def QuotaSaysUptoSaid : Prop := quotaSaysUptoRow.holds Try.pinned (OpenSpec.upto quotaSaysSpec)

/-- 'breviarylaw17.QuotaAdds', WHERE WHAT IT READS IS OF BULK AT MOST 1048576: true; the input reads as it did. -/
def quotaAddsUptoRow : OpenClaim := { program := "ythominkfjfnkbaa", sum := "774aac534d342036e204e653044dad2fc4dd3d8d50ec5b8a2919b6e8f2f69dc7", func := "breviary/breviarylaw17.QuotaAdds", spec := "quotaAdds", apart := false, narrowed := true }
def QuotaAddsUptoSaid : Prop := quotaAddsUptoRow.holds Try.pinned (OpenSpec.upto quotaAddsSpec)

end Rows
end Go.Proofs.Ythominkfjfnkbaa
