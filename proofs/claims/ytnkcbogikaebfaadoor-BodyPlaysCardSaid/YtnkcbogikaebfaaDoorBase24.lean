/- Merged texts: ArgsD16. -/
import Derived.Test.YtnkcbogikaebfaaDoorBase23
import Derived.Test.YtnkcbogikaebfaaDoorBase22
section
/- Arguments: a slice of the things that law 16 tells a body; a cell. -/
namespace Go.Proofs.YtnkcbogikaebfaaDoor
open Go Go.RowKit Go.ChangeShapes Go.WideShapes
set_option maxRecDepth 100000
theorem in64_of_wf {a : Int} (h : (Lit.int .i64 a).wf = true) : In64 a := by
  simp [Lit.wf, IntKind.min, IntKind.max, IntKind.signed, IntKind.bits] at h
  unfold In64
  omega
theorem open_dos16_arg {H : Type} {enc : TypeId × Value → H} {W : World} {base : Nat} {v : Value} {d : DataW H} {ps : List MemPlace} (hval : Value.okWide Tryd.prog W .any base 22 v) (h : DataW.Trod enc Tryd.prog W 0 (fun _ => true) true 22 v d ps)
    (hlt : ∀ x ∈ ps, x.block < W.heap.size) : ∃ ds : List Do16, RdE W 4 encDo16 v ds ∧ (∀ d ∈ ds, okDo16 W d) ∧ ds.length ≤ maxLen ∧ ∃ sp n cap, v = .slice sp n cap :=
  open_els (α := Do16) (n := 4) (ks := [.int .i64, .int .i64, .int .i64, .bytes]) Tryd.underlying22 (by kernel_rfl) (by kernel_rfl) (by omega) (fun cs h => by
    obtain ⟨_, _, rfl, ⟨a1, rfl, w1⟩, _, _, rfl, ⟨a2, rfl, w2⟩, _, _, rfl, ⟨a3, rfl, w3⟩, _, _, rfl, ⟨sp, cap, l, rfl, hr, _, _, hl⟩, rfl⟩ := h
    exact ⟨⟨a1, (a2, a3), .slice sp l.length cap, l⟩, rfl, in64_of_wf w1, in64_of_wf w2, in64_of_wf w3, hr, hl⟩) hval h hlt
theorem open_cell_arg {H : Type} {enc : TypeId × Value → H} {W : World} {v : Value} {d : DataW H} {ps : List MemPlace} (h : DataW.Trod enc Tryd.prog W 0 (fun _ => true) true 24 v d ps)
    (hlt : ∀ x ∈ ps, x.block < W.heap.size) : ∃ c : Cl, v = .agg #[.int .i64 c.1, .int .i64 c.2] ∧ In64 c.1 ∧ In64 c.2 := by
  obtain ⟨fuel, hf⟩ := h
  obtain ⟨_, _, e1, ⟨a1, rfl, w1⟩, _, _, rfl, ⟨a2, rfl, w2⟩, rfl⟩ := leaves_read (P := Tryd.prog) 3 24 [.int .i64, .int .i64] _ _ _ (by kernel_rfl) hf hlt
  refine ⟨(a1, a2), ?_, in64_of_wf w1, in64_of_wf w2⟩
  cases v <;> simp [Value.cells] at e1
  rename_i cs
  obtain ⟨l⟩ := cs
  simp at e1
  rw [e1]
end Go.Proofs.YtnkcbogikaebfaaDoor
end
