/- Merged texts: OpenClone. -/
import Derived.Test.YtjekpbkmhgfhoaaGreatDoorGBase18
import Derived.Test.YtjekpbkmhgfhoaaGreatDoorGBase08
import Derived.Deep.RegionHeld3
import Derived.Shelf.SlMaps.Clone
section
/- The walks of package open: Clone. -/
namespace Go.Proofs.YtjekpbkmhgfhoaaGreatDoor
open Go Go.RowKit
set_option maxRecDepth 100000
set_option linter.unusedSimpArgs false
attribute [local go_sem] giv
variable {E : Nat → Addr} {B : Nat}

theorem mclone_h {w : World} {r n : Nat} {g : Int → Option (Int × Int)} (h : FMap w r g n) : Calls Tryz.prog 143 #[.map (some r)] w fun e w' =>
    e = .returned (.map (some w.heap.size)) ∧ FMap w' w.heap.size g n ∧ Below w.heap.size w w' ∧ w'.heap.size = w.heap.size + 1 := by
  obtain ⟨es, clk, _, hb, hc⟩ := h.copy
  have hq := fun w => run_eql_map_nil_sl (P := Tryz.prog) w 110 _ _ (some r) Tryz.underlying110
  clear h
  go_enter Tryz.func143, Tryz.ntmps143
  go_wp2
  rw [run_callFunc_extern Tryz.func170 (by kernel_rfl) (by kernel_rfl) (by kernel_rfl) (e := Extern.MapsClone.clone) (by kernel_rfl), run_maps_clone_sl w 110 hb]
  simp only [Result.andThen]
  rw [Oper.upon_value]
  go_wp2
  rw [run_typeAssert_map_sl _ 110 _ _ _ _ Tryz.underlying110]
  simp only [Result.andThen]
  rw [Oper.upon_value]
  go_wp2
  go_ret
  exact ⟨rfl, hc w, bl_alloc (Below.refl _ _) _, by simp⟩
theorem mclone_h0 (w : World) : Calls Tryz.prog 143 #[.map none] w fun e w' =>
    e = .returned (.map none) ∧ w = w' := by
  have hq := fun w => run_eql_map_nil_sl (P := Tryz.prog) w 110 _ _ none Tryz.underlying110
  go_enter Tryz.func143, Tryz.ntmps143
  go_wp2
  go_ret
  exact ⟨rfl, rfl⟩

/-- A table of its own, which has the same. -/
theorem fclone_any {w : World} {b : Nat} {m : Option Nat} {g : Int → Option (Int × Int)} {n : Nat} (h : FilesAt w b m g n) :
    Calls Tryz.prog 108 #[.pointer (some ⟨b, 0, none⟩)] w fun e w' =>
      (∃ b' m', e = .returned (.pointer (some ⟨b', 0, none⟩)) ∧ FilesAt w' b' m' g n ∧ ∀ x, Own b' m' x → w.heap.size ≤ x) ∧ Below w.heap.size w w' := by
  generalize hP : (fun (e : Ending) (w' : World) => (∃ b' m', e = .returned (.pointer (some ⟨b', 0, none⟩)) ∧ FilesAt w' b' m' g n ∧ ∀ x, Own b' m' x → w.heap.size ≤ x) ∧ Below w.heap.size w w') = Post
  have HP := Lib.hid hP
  clear hP
  have H := Lib.hid h
  have s0 := h.1
  have hlt := h.2.2.1
  clear h
  cases m with
  | none =>
    go_enter Tryz.func108, Tryz.ntmps108
    go_wp2_with fail
    refine (mclone_h0 _).mono ?_
    rintro e w1 ⟨rfl, rfl⟩
    go_wp2
    rw [← HP.out]
    have r := Row.new w 112 [.map none]
    obtain ⟨h1, h2, h3, h4⟩ := H.out
    refine ⟨⟨_, none, rfl, ⟨r.cell 0, r.froz 0, r.lt, h4⟩, ?_⟩, bl_alloc (Below.refl _ _) _⟩
    rintro x (rfl | hx)
    · exact Nat.le_refl _
    · cases hx
  | some r0 =>
    go_enter Tryz.func108, Tryz.ntmps108
    go_wp2_with fail
    refine (mclone_h H.out.2.2.2.2).mono ?_
    rintro e w1 ⟨rfl, hv, hb, hz⟩
    have HV := Lib.hid hv
    have HB := Lib.hid hb
    have HZ := Lib.hid hz
    clear hv hb hz
    go_wp2
    rw [← HP.out]
    have r := Row.new w1 112 [.map (some w.heap.size)]
    have hz := HZ.out
    refine ⟨⟨_, some w.heap.size, rfl, ⟨r.cell 0, r.froz 0, r.lt, by omega, HV.out.alloc _⟩, ?_⟩, bl_alloc HB.out _⟩
    rintro x (rfl | hx)
    · omega
    · injection hx with hx
      omega
end Go.Proofs.YtjekpbkmhgfhoaaGreatDoor
end
