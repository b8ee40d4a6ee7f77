/- Merged texts: ArgsI. -/
import Derived.Test.YthhipeceeagpnaaGreatDoorLBase15
import Derived.Test.YthhipeceeagpnaaGreatDoorLBase16
import Derived.Test.YthhipeceeagpnaaGreatDoorLBase38
section
/- Arguments: a slice of ints; a slice of bytes with its room. -/
namespace Go.Proofs.YthhipeceeagpnaaGreatDoor
open Go Go.RowKit Go.ChangeShapes Go.WideShapes
set_option maxRecDepth 100000
theorem open_room_arg {H : Type} {enc : TypeId × Value → H} {W : World} {base : Nat} {sp : Option Addr} {n cap : Nat} {d : DataW H} {ps : List MemPlace} (hval : Value.okWide Tryz.prog W .any base 32 (.slice sp n cap)) (h : DataW.Trod enc Tryz.prog W 0 (fun _ => true) true 32 (.slice sp n cap) d ps) : n ≤ cap ∧ cap ≤ maxLen := by
  obtain ⟨fuel, hf⟩ := h
  rcases open_ints Tryz.underlying32 Tryz.underlying5 u8Cells hf with ⟨hcs, hx⟩ | ⟨a, len', cap', zs, hcs, _, hl, hm, hz, hx, hcell, hwz⟩
  · simp [Value.cells] at hcs
    obtain ⟨rfl, rfl, rfl⟩ := hcs
    simp
  · simp [Value.cells] at hcs
    obtain ⟨rfl, rfl, rfl⟩ := hcs
    exact ⟨hl, hm⟩
end Go.Proofs.YthhipeceeagpnaaGreatDoor
end
