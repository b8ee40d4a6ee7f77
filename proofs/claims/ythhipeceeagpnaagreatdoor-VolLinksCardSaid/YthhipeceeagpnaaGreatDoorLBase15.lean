/- Merged texts: Args. -/
import Derived.Test.YthhipeceeagpnaaGreatDoorLBase10
import Derived.OpenShut
import Derived.ChangeSlices
import Derived.Carry
section
/- An argument that is a slice of bytes: what its reading gives. -/
namespace Go.Proofs.YthhipeceeagpnaaGreatDoor
open Go Go.RowKit Go.ChangeShapes Go.WideShapes
set_option maxRecDepth 100000

theorem u8Cells : Tryz.prog.cellsOf 5 = 1 := by kernel_rfl
theorem open_bytes_arg {H : Type} {enc : TypeId × Value → H} {W : World} {base : Nat} {v : Value} {d : DataW H} {ps : List MemPlace} (hval : Value.okWide Tryz.prog W .any base 32 v) (h : DataW.Trod enc Tryz.prog W 0 (fun _ => true) true 32 v d ps)
    (hlt : ∀ x ∈ ps, x.block < W.heap.size) :
    ∃ (sp : Option Addr) (cap : Nat) (l : List Int), v = .slice sp l.length cap ∧ RdB W (.slice sp l.length cap) l ∧ (l ≠ [] → ∀ h off s, sp = some ⟨h, off, s⟩ → h < W.heap.size) ∧ (∀ x ∈ l, 0 ≤ x ∧ x ≤ 255) ∧ l.length ≤ maxLen := by
  obtain ⟨a0, len, cap, rfl⟩ := okWide_slice Tryz.underlying32 hval
  obtain ⟨fuel, hf⟩ := h
  rcases open_ints Tryz.underlying32 Tryz.underlying5 u8Cells hf with ⟨hcs, hx⟩ | ⟨a, len', cap', zs, hcs, _, hl, hm, hz, hx, hcell, hwz⟩
  · simp [Value.cells] at hcs
    obtain ⟨rfl, rfl, rfl⟩ := hcs
    exact ⟨none, 0, [], rfl, ⟨_, _, rfl, .inl rfl⟩, fun h => absurd rfl h, by simp, by simp⟩
  · simp [Value.cells] at hcs
    obtain ⟨rfl, rfl, rfl⟩ := hcs
    simp only [Prod.mk.injEq] at hx
    obtain ⟨_, rfl⟩ := hx
    simp only [if_true] at hz
    have hlen : (zs.take len).length = len := by simp; omega
    have hwf : ∀ x ∈ zs, 0 ≤ x ∧ x ≤ 255 := fun x hx => by
      have := hwz x hx
      simp [Lit.wf, IntKind.min, IntKind.max, IntKind.signed, IntKind.bits] at this
      omega
    refine ⟨some a, cap, zs.take len, by rw [hlen], ⟨some a, cap, rfl, ?_⟩, fun hne h off s hs => ?_, fun x hx => hwf x (List.mem_of_mem_take hx), by rw [hlen]; omega⟩
    · by_cases h0 : len = 0
      · exact .inl (by rw [h0]; rfl)
      · obtain ⟨b, off, spot⟩ := a
        have hspot : spot = none := by simpa [Addr.add] using World.cell?_spot (hcell 0 (by omega))
        subst hspot
        refine .inr ⟨b, off, rfl, hlt (.cell b off) (MemPlace.mem_row.2 ⟨0, by omega, by simp⟩), fun i hi => ?_⟩
        rw [hlen] at hi
        rw [← add_plain, hcell i (by omega)]
        congr 2
        simp [List.getD, hi]
    · injection hs with hs
      subst hs
      have h0 : len ≠ 0 := by
        rintro rfl
        exact hne rfl
      exact hlt (.cell h off) (MemPlace.mem_row.2 ⟨0, by omega, by simp⟩)
end Go.Proofs.YthhipeceeagpnaaGreatDoor
end
