/- Merged texts: ArgsD19. -/
import Derived.Test.YtnkcbogikaebfaaGreatDoorBase16
import Derived.Test.YtnkcbogikaebfaaGreatDoorBase41
section
/- An argument that is a slice of acts, opened. -/
namespace Go.Proofs.YtnkcbogikaebfaaGreatDoor
open Go Go.RowKit Go.ChangeShapes Go.WideShapes
set_option maxRecDepth 100000
instance : Inhabited Ac := ⟨⟨0, 0, ⟨#[]⟩, ⟨#[]⟩⟩⟩
def okAc (c : Ac) : Prop := -9223372036854775808 ≤ c.n ∧ c.n ≤ 9223372036854775807
theorem in64_ac {a : Int} (h : (Lit.int .i64 a).wf = true) : -9223372036854775808 ≤ a ∧ a ≤ 9223372036854775807 := by
  simp [Lit.wf, IntKind.min, IntKind.max, IntKind.signed, IntKind.bits] at h
  omega
theorem open_dos19_arg {H : Type} {enc : TypeId × Value → H} {W : World} {base : Nat} {v : Value} {d : DataW H} {ps : List MemPlace} (hval : Value.okWide Tryz.prog W .any base 22 v) (h : DataW.Trod enc Tryz.prog W 0 (fun _ => true) true 22 v d ps)
    (hlt : ∀ x ∈ ps, x.block < W.heap.size) : ∃ ds : List Ac, RdE W 4 encAc v ds ∧ (∀ d ∈ ds, okAc d) ∧ ds.length ≤ maxLen ∧ ∃ sp n cap, v = .slice sp n cap :=
  open_els (α := Ac) (n := 3) (ks := [.int .i64, .int .i64, .str, .str]) Tryz.underlying22 (by kernel_rfl) (by kernel_rfl) (by omega) (fun cs h => by
    obtain ⟨_, _, rfl, ⟨a1, rfl, w1⟩, _, _, rfl, ⟨a2, rfl, w2⟩, _, _, rfl, ⟨a3, rfl, w3⟩, _, _, rfl, ⟨a4, rfl, w4⟩, rfl⟩ := h
    exact ⟨⟨a1, a2, a3, a4⟩, rfl, in64_ac w2⟩) hval h hlt
end Go.Proofs.YtnkcbogikaebfaaGreatDoor
end
