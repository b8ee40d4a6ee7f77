/- Merged texts: QArgsI. -/
import Derived.Test.YthhipeceeagpnaaGreatDoorQYBase15
import Derived.Test.YthhipeceeagpnaaGreatDoorQYBase16
import Derived.Test.YthhipeceeagpnaaGreatDoorQYBase38
section
/- Arguments: a slice of ints; a slice of bytes with its room. -/
namespace Go.Proofs.YthhipeceeagpnaaGreatDoor
open Go Go.RowKit Go.ChangeShapes Go.WideShapes
set_option maxRecDepth 100000
theorem open_ints_arg {H : Type} {enc : TypeId × Value → H} {W : World} {base : Nat} {v : Value} {d : DataW H} {ps : List MemPlace} (hval : Value.okWide Tryz.prog W .any base 59 v) (h : DataW.Trod enc Tryz.prog W 0 (fun _ => true) true 59 v d ps)
    (hlt : ∀ x ∈ ps, x.block < W.heap.size) : ∃ ks : List Int, RdE W 1 encI1 v ks ∧ (∀ k ∈ ks, (Lit.int .i64 k).wf = true) ∧ ks.length ≤ maxLen ∧ ∃ sp n cap, v = .slice sp n cap :=
  open_els (α := Int) (n := 1) (ks := [.int .i64]) Tryz.underlying59 (by kernel_rfl) (by kernel_rfl) (by omega) (fun cs h => by
    obtain ⟨v, rest, rfl, ⟨s, rfl, hs⟩, rfl⟩ := h
    exact ⟨s, rfl, hs⟩) hval h hlt
theorem open_room_arg {H : Type} {enc : TypeId × Value → H} {W : World} {base : Nat} {sp : Option Addr} {n cap : Nat} {d : DataW H} {ps : List MemPlace} (hval : Value.okWide Tryz.prog W .any base 32 (.slice sp n cap)) (h : DataW.Trod enc Tryz.prog W 0 (fun _ => true) true 32 (.slice sp n cap) d ps) : n ≤ cap ∧ cap ≤ maxLen := by
  obtain ⟨fuel, hf⟩ := h
  rcases open_ints Tryz.underlying32 Tryz.underlying5 u8Cells hf with ⟨hcs, hx⟩ | ⟨a, len', cap', zs, hcs, _, hl, hm, hz, hx, hcell, hwz⟩
  · simp [Value.cells] at hcs
    obtain ⟨rfl, rfl, rfl⟩ := hcs
    simp
  · simp [Value.cells] at hcs
    obtain ⟨rfl, rfl, rfl⟩ := hcs
    exact ⟨hl, hm⟩
end Go.Proofs.YthhipeceeagpnaaGreatDoor
end
