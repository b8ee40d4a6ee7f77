/- An argument that is a slice of texts, opened. -/
import Derived.Test.YthominkfjfnkbaaDoorLeaves
import Derived.Test.YthominkfjfnkbaaDoorDirAll
namespace Go.Proofs.YthominkfjfnkbaaDoor
open Go Go.RowKit Go.ChangeShapes Go.WideShapes
set_option maxRecDepth 100000
theorem open_strs_arg {H : Type} {enc : TypeId × Value → H} {W : World} {base : Nat} {v : Value} {d : DataW H} {ps : List MemPlace} (hval : Value.okWide Tryd.prog W .any base 92 v) (h : DataW.Trod enc Tryd.prog W 0 (fun _ => true) true 92 v d ps)
    (hlt : ∀ x ∈ ps, x.block < W.heap.size) : ∃ ks : List ByteArray, RdE W 1 encS v ks ∧ (∀ k ∈ ks, k.size ≤ maxLen) ∧ ks.length ≤ maxLen ∧ ∃ sp n cap, v = .slice sp n cap :=
  open_els (α := ByteArray) (n := 1) (ks := [.str]) Tryd.underlying92 (by kernel_rfl) (by kernel_rfl) (by omega) (fun cs h => by
    obtain ⟨v, rest, rfl, ⟨s, rfl, hs⟩, rfl⟩ := h
    exact ⟨s, rfl, hs⟩) hval h hlt
end Go.Proofs.YthominkfjfnkbaaDoor
