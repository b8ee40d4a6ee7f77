/- An argument that is a slice of the things that law 14 tells a directory, opened. -/
import Derived.Test.YthominkfjfnkbaaDoorLeaves
import Derived.Test.YthominkfjfnkbaaDoorDirPlay
namespace Go.Proofs.YthominkfjfnkbaaDoor
open Go Go.RowKit Go.ChangeShapes Go.WideShapes
set_option maxRecDepth 100000
theorem open_dos14_arg {H : Type} {enc : TypeId × Value → H} {W : World} {base : Nat} {v : Value} {d : DataW H} {ps : List MemPlace} (hval : Value.okWide Tryd.prog W .any base 100 v) (h : DataW.Trod enc Tryd.prog W 0 (fun _ => true) true 100 v d ps)
    (hlt : ∀ x ∈ ps, x.block < W.heap.size) : ∃ ds : List Do14, RdE W 4 encDo14 v ds ∧ (∀ d ∈ ds, okDo14 d) ∧ ds.length ≤ maxLen ∧ ∃ sp n cap, v = .slice sp n cap :=
  open_els (α := Do14) (n := 3) (ks := [.int .i64, .str, .int .i64, .int .i64]) Tryd.underlying100 (by kernel_rfl) (by kernel_rfl) (by omega) (fun cs h => by
    obtain ⟨_, _, rfl, ⟨a1, rfl, w1⟩, _, _, rfl, ⟨a2, rfl, w2⟩, _, _, rfl, ⟨a3, rfl, w3⟩, _, _, rfl, ⟨a4, rfl, w4⟩, rfl⟩ := h
    exact ⟨⟨a1, ⟨a2, a3, a4⟩⟩, rfl, trivial⟩) hval h hlt
end Go.Proofs.YthominkfjfnkbaaDoor
