/- Merged texts: NodeClone. -/
import Derived.Test.YtjekpbkmhgfhoaaGreatDoorGBase18
import Derived.Test.YtjekpbkmhgfhoaaGreatDoorGBase08
import Derived.Test.YtjekpbkmhgfhoaaGreatDoorGBase13
import Derived.Deep.RegionHeld3
import Derived.Shelf.SlMaps.Clone
section
/- The walks of package node: maps.Clone, Clone. -/
namespace Go.Proofs.YtjekpbkmhgfhoaaGreatDoor
open Go Go.RowKit
set_option maxRecDepth 100000
set_option linter.unusedSimpArgs false
attribute [local go_sem] giv
variable {E : Nat → Addr} {B : Nat}

theorem mclone_n {w : World} {r n : Nat} {g : Int → Option Nd} (h : NMap w r g n) : Calls Tryz.prog 203 #[.map (some r)] w fun e w' =>
    e = .returned (.map (some w.heap.size)) ∧ NMap w' w.heap.size g n ∧ Below w.heap.size w w' ∧ w'.heap.size = w.heap.size + 1 := by
  obtain ⟨es, clk, _, hb, hc⟩ := h.copy
  have hq := fun w => run_eql_map_nil_sl (P := Tryz.prog) w 152 _ _ (some r) Tryz.underlying152
  clear h
  go_enter Tryz.func203, Tryz.ntmps203
  go_wp2
  rw [run_callFunc_extern Tryz.func170 (by kernel_rfl) (by kernel_rfl) (by kernel_rfl) (e := Extern.MapsClone.clone) (by kernel_rfl), run_maps_clone_sl w 152 hb]
  simp only [Result.andThen]
  rw [Oper.upon_value]
  go_wp2
  rw [run_typeAssert_map_sl _ 152 _ _ _ _ Tryz.underlying152]
  simp only [Result.andThen]
  rw [Oper.upon_value]
  go_wp2
  go_ret
  exact ⟨rfl, hc w, bl_alloc (Below.refl _ _) _, by simp⟩
theorem mclone_n0 (w : World) : Calls Tryz.prog 203 #[.map none] w fun e w' =>
    e = .returned (.map none) ∧ w = w' := by
  have hq := fun w => run_eql_map_nil_sl (P := Tryz.prog) w 152 _ _ none Tryz.underlying152
  go_enter Tryz.func203, Tryz.ntmps203
  go_wp2
  go_ret
  exact ⟨rfl, rfl⟩

/-- A table of its own, which has the same. -/
theorem nclone_any {w : World} {b : Nat} {m : Option Nat} {g : Int → Option Nd} {n : Nat} {last : Int} (h : NodesAt w b m g n last) :
    Calls Tryz.prog 168 #[.pointer (some ⟨b, 0, none⟩)] w fun e w' =>
      (∃ b' m', e = .returned (.pointer (some ⟨b', 0, none⟩)) ∧ NodesAt w' b' m' g n last ∧ ∀ x, OwnN b' m' x → w.heap.size ≤ x) ∧ Below w.heap.size w w' := by
  generalize hP : (fun (e : Ending) (w' : World) => (∃ b' m', e = .returned (.pointer (some ⟨b', 0, none⟩)) ∧ NodesAt w' b' m' g n last ∧ ∀ x, OwnN b' m' x → w.heap.size ≤ x) ∧ Below w.heap.size w w') = Post
  have HP := Lib.hid hP
  clear hP
  have H := Lib.hid h
  have s0 := H.out.map
  have s1 := H.out.last
  have hlt := H.out.lt
  clear h
  cases m with
  | none =>
    go_enter Tryz.func168, Tryz.ntmps168
    go_wp2_with fail
    go_region_held3 (fun w' => w'.cell? ⟨b, 0, none⟩ = some (.map none) ∧ w'.cell? ⟨b, 1, none⟩ = some (.int .i64 last) ∧ Below w.heap.size w w') (first | exact ⟨s0, s1, (Below.refl _ _).drew⟩ | (exact ⟨(H.out.below (bl_alloc (Below.refl _ _).drew _)).map, (H.out.below (bl_alloc (Below.refl _ _).drew _)).last, bl_alloc (Below.refl _ _).drew _⟩))
      ((go_at_call 203; refine (mclone_n0 _).mono ?_; rintro e w1 ⟨rfl, rfl⟩))
    go_wp2
    rw [← HP.out]
    have r := Row.new w 154 [.map none, .int .i64 last]
    obtain ⟨h1, h2⟩ := H.out.made
    refine ⟨⟨w.heap.size, none, rfl, ⟨(r.cell 0 : _), (r.cell 1 : _), (r.froz 0 : _), (r.froz 1 : _), (r.lt : _), h1, h2⟩, ?_⟩, ?_⟩
    · rintro x (rfl | h)
      · exact Nat.le_refl _
      · cases h
    · exact (bl_alloc (Below.refl _ _) _).drew
  | some r =>
    have HM := Lib.hid H.out.made.2
    go_enter Tryz.func168, Tryz.ntmps168
    go_wp2_with fail
    go_region_held3 (fun w' => w'.cell? ⟨b, 0, none⟩ = some (.map (some r)) ∧ w'.cell? ⟨b, 1, none⟩ = some (.int .i64 last) ∧ Below w.heap.size w w') (first | exact ⟨s0, s1, (Below.refl _ _).drew⟩ | (exact ⟨(H.out.below HW1.out).map, (H.out.below HW1.out).last, HW1.out⟩) | (exact ⟨(H.out.below (bl_alloc HW1.out _)).map, (H.out.below (bl_alloc HW1.out _)).last, bl_alloc HW1.out _⟩))
      ((go_at_call 203; refine (mclone_n (n := n) (g := g) ?_).mono ?_; exact HM.out.below (Below.refl _ _).drew; rintro e w1 ⟨rfl, hv1, hb1, hs1⟩; have HW1 : Hid (Below w.heap.size w w1) := Lib.hid ((Below.refl w.heap.size w).drew.trans hb1); have HV1 := Lib.hid hv1; have HS1 := Lib.hid hs1; clear hv1 hb1 hs1))
    go_wp2
    rw [← HP.out]
    have hs1 : w1.heap.size = w.heap.size + 1 := HS1.out
    have r := Row.new w1 154 [.map (some w.heap.size), .int .i64 last]
    have hm1 : NMap w1 w.heap.size g n := HV1.out
    refine ⟨⟨_, some w.heap.size, rfl, ⟨r.cell 0, r.cell 1, r.froz 0, r.froz 1, r.lt, by omega, hm1.alloc _⟩, ?_⟩, bl_alloc HW1.out _⟩
    rintro x (rfl | h)
    · omega
    · injection h with h
      omega
end Go.Proofs.YtjekpbkmhgfhoaaGreatDoor
end
