/- An argument that is a slice of the things that law 15 tells a table, opened. -/
import Derived.Test.YthominkfjfnkbaaDoorLeaves
import Derived.Test.YthominkfjfnkbaaDoorNodePlay
namespace Go.Proofs.YthominkfjfnkbaaDoor
open Go Go.RowKit Go.ChangeShapes Go.WideShapes
set_option maxRecDepth 100000
theorem in64_wf {a : Int} (h : (Lit.int .i64 a).wf = true) : in64 a := by
  simp [Lit.wf, IntKind.min, IntKind.max, IntKind.signed, IntKind.bits] at h
  unfold in64
  omega
theorem open_dos15_arg {H : Type} {enc : TypeId × Value → H} {W : World} {base : Nat} {v : Value} {d : DataW H} {ps : List MemPlace} (hval : Value.okWide Tryd.prog W .any base 68 v) (h : DataW.Trod enc Tryd.prog W 0 (fun _ => true) true 68 v d ps)
    (hlt : ∀ x ∈ ps, x.block < W.heap.size) : ∃ ds : List Do15, RdE W 8 encDo v ds ∧ (∀ d ∈ ds, okDo d) ∧ ds.length ≤ maxLen ∧ ∃ sp n cap, v = .slice sp n cap :=
  open_els (α := Do15) (n := 3) (ks := [.int .i64, .int .i64, .int .i64, .int .i64, .int .i64, .int .i64, .str, .int .i64]) Tryd.underlying68 (by kernel_rfl) (by kernel_rfl) (by omega) (fun cs h => by
    obtain ⟨_, _, rfl, ⟨a1, rfl, w1⟩, _, _, rfl, ⟨a2, rfl, w2⟩, _, _, rfl, ⟨a3, rfl, w3⟩, _, _, rfl, ⟨a4, rfl, w4⟩, _, _, rfl, ⟨a5, rfl, w5⟩, _, _, rfl, ⟨a6, rfl, w6⟩, _, _, rfl, ⟨a7, rfl, w7⟩, _, _, rfl, ⟨a8, rfl, w8⟩, rfl⟩ := h
    exact ⟨⟨a1, a2, ⟨a3, a4, a5, a6, a7, a8⟩⟩, rfl, in64_wf w2, in64_wf w3⟩) hval h hlt
end Go.Proofs.YthominkfjfnkbaaDoor
