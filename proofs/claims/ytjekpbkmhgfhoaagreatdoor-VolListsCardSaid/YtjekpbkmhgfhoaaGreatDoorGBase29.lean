/- Merged texts: BodyClone BodyLaw. -/
import Derived.Test.YtjekpbkmhgfhoaaGreatDoorGBase15
import Derived.Deep.RegionHeld3
import Derived.Test.YtjekpbkmhgfhoaaGreatDoorGBase18
section
/- The walks of package body: maps.Clone, Clone, Clean. -/
namespace Go.Proofs.YtjekpbkmhgfhoaaGreatDoor
open Go Go.RowKit
set_option maxRecDepth 100000
set_option linter.unusedSimpArgs false
attribute [local go_sem] giv
variable {E : Nat → Addr} {B : Nat}

theorem mclone_v {w : World} {r n : Nat} {g : Cl → Option Value} (h : VMap w r g n) : Calls Tryz.prog 141 #[.map (some r)] w fun e w' =>
    e = .returned (.map (some w.heap.size)) ∧ VMap w' w.heap.size g n ∧ Below w.heap.size w w' ∧ w'.heap.size = w.heap.size + 1 := by
  obtain ⟨es, clk, _, hb, hc⟩ := h.copy
  have hq := fun w => run_eql_map_nil_sl (P := Tryz.prog) w 114 _ _ (some r) Tryz.underlying114
  clear h
  go_enter Tryz.func141, Tryz.ntmps141
  go_wp2
  rw [run_callFunc_extern Tryz.func170 (by kernel_rfl) (by kernel_rfl) (by kernel_rfl) (e := Extern.MapsClone.clone) (by kernel_rfl), run_maps_clone_sl w 114 hb]
  simp only [Result.andThen]
  rw [Oper.upon_value]
  go_wp2
  rw [run_typeAssert_map_sl _ 114 _ _ _ _ Tryz.underlying114]
  simp only [Result.andThen]
  rw [Oper.upon_value]
  go_wp2
  go_ret
  exact ⟨rfl, hc w, bl_alloc (Below.refl _ _) _, by simp⟩
theorem mclone_d {w : World} {r n : Nat} {g : Cl → Option Int} (h : DMap w r g n) : Calls Tryz.prog 142 #[.map (some r)] w fun e w' =>
    e = .returned (.map (some w.heap.size)) ∧ DMap w' w.heap.size g n ∧ Below w.heap.size w w' ∧ w'.heap.size = w.heap.size + 1 := by
  obtain ⟨es, clk, _, hb, hc⟩ := h.copy
  have hq := fun w => run_eql_map_nil_sl (P := Tryz.prog) w 115 _ _ (some r) Tryz.underlying115
  clear h
  go_enter Tryz.func142, Tryz.ntmps142
  go_wp2
  rw [run_callFunc_extern Tryz.func170 (by kernel_rfl) (by kernel_rfl) (by kernel_rfl) (e := Extern.MapsClone.clone) (by kernel_rfl), run_maps_clone_sl w 115 hb]
  simp only [Result.andThen]
  rw [Oper.upon_value]
  go_wp2
  rw [run_typeAssert_map_sl _ 115 _ _ _ _ Tryz.underlying115]
  simp only [Result.andThen]
  rw [Oper.upon_value]
  go_wp2
  go_ret
  exact ⟨rfl, hc w, bl_alloc (Below.refl _ _) _, by simp⟩

/-- A body of its own, which has the same. -/
theorem bclone_any {w : World} {M : Nat → Prop} {b m d : Nat} {g : Cl → Option (Option (List Int))} {gd : Cl → Option Int} {n k : Nat} (h : BodyAt w M b m d g gd n k) :
    Calls Tryz.prog 107 #[.pointer (some ⟨b, 0, none⟩)] w fun e w' =>
      (∃ b' m' d', e = .returned (.pointer (some ⟨b', 0, none⟩)) ∧ w.heap.size ≤ b' ∧ w.heap.size ≤ m' ∧ w.heap.size ≤ d' ∧ BodyAt w' (fun x => M x ∨ w.heap.size ≤ x) b' m' d' g gd n k) ∧ Below w.heap.size w w' := by
  generalize hP : (fun (e : Ending) (w' : World) => (∃ b' m' d', e = .returned (.pointer (some ⟨b', 0, none⟩)) ∧ w.heap.size ≤ b' ∧ w.heap.size ≤ m' ∧ w.heap.size ≤ d' ∧ BodyAt w' (fun x => M x ∨ w.heap.size ≤ x) b' m' d' g gd n k) ∧ Below w.heap.size w w') = Post
  have HP := Lib.hid hP
  clear hP
  obtain ⟨gv, hgv, hrel⟩ := h.has
  have HGV := Lib.hid hgv
  have HREL := Lib.hid hrel
  have HD := Lib.hid h.dirty
  have H := Lib.hid h
  clear hgv hrel h
  go_enter Tryz.func107, Tryz.ntmps107
  go_wp2_with fail
  have s0 := H.out.cm
  have s1 := H.out.cd
  have hlt := H.out.lt
  go_region_held3 (fun w' => w'.cell? ⟨b, 0, none⟩ = some (.map (some m)) ∧ w'.cell? ⟨b, 1, none⟩ = some (.map (some d)) ∧ Below w.heap.size w w') (first | exact ⟨s0, s1, (Below.refl _ _).drew⟩ | (exact ⟨(H.out.below HW2.out).cm, (H.out.below HW2.out).cd, HW2.out⟩) | (exact ⟨(H.out.below HW1.out).cm, (H.out.below HW1.out).cd, HW1.out⟩) | (exact ⟨(H.out.below (bl_alloc HW2.out _)).cm, (H.out.below (bl_alloc HW2.out _)).cd, bl_alloc HW2.out _⟩))
    (first
      | (go_at_call 141; refine (mclone_v (n := n) (g := gv) ?_).mono ?_; exact HGV.out.below (by first | exact (Below.refl _ _).drew | assumption); rintro e w1 ⟨rfl, hv1, hb1, hs1⟩; have HW1 : Hid (Below w.heap.size w w1) := Lib.hid ((Below.refl w.heap.size w).drew.trans hb1); have HV1 := Lib.hid hv1; have HS1 := Lib.hid hs1; clear hv1 hb1 hs1)
      | (go_at_call 142; refine (mclone_d (n := k) (g := gd) ?_).mono ?_; exact HD.out.below HW1.out; rintro e w2 ⟨rfl, hv2, hb2, hs2⟩; have HW2 := Lib.hid (HW1.out.trans (hb2.mono HW1.out.size)); have HV2 := Lib.hid hv2; have HB2 := Lib.hid hb2; have HS2 := Lib.hid hs2; clear hv2 hb2 hs2))
  go_wp2
  rw [← HP.out]
  have hs1 : w1.heap.size = w.heap.size + 1 := HS1.out
  have hs2 : w2.heap.size = w1.heap.size + 1 := HS2.out
  have r := Row.new w2 117 [.map (some w.heap.size), .map (some w1.heap.size)]
  have hm1 : VMap w1 w.heap.size gv n := HV1.out
  have hm := (hm1.below HB2.out).alloc (.cells #[.map (some w.heap.size), .map (some w1.heap.size)] 117)
  have hd := HV2.out.alloc (.cells #[.map (some w.heap.size), .map (some w1.heap.size)] 117)
  refine ⟨⟨_, w.heap.size, w1.heap.size, rfl, by omega, by omega, by omega, r.cell 0, r.cell 1, r.froz 0, r.froz 1, r.lt, by omega, by omega, by omega, .inr (by omega), .inr (Nat.le_refl _), .inr (by omega), hd, gv, hm, fun c => ?_⟩, bl_alloc HW2.out _⟩
  rcases HREL.out c with e1 | ⟨v, o, e1, e2, e3⟩
  · exact .inl e1
  · exact .inr ⟨v, o, e1, e2, (e3.more (M' := fun x => M x ∨ w.heap.size ≤ x) fun x hx => hx).touch (Touch.of_below (bl_alloc HW2.out _) NoB) (fun _ h => h.elim)⟩

end Go.Proofs.YtjekpbkmhgfhoaaGreatDoor
end

section
/- Helpers of the laws of chapter 16. -/
namespace Go.Proofs.YtjekpbkmhgfhoaaGreatDoor
open Go Go.RowKit
set_option maxRecDepth 100000
set_option linter.unusedSimpArgs false
attribute [local go_sem] giv
variable {E : Nat → Addr} {B : Nat}

theorem BodyAt.less {w : World} {M M' : Nat → Prop} {b m d : Nat} {g : Cl → Option (Option (List Int))} {gd : Cl → Option Int} {n k : Nat} (h : BodyAt w M b m d g gd n k) (hM : ∀ x, M' x → M x) (h1 : M' b) (h2 : M' m) (h3 : M' d) : BodyAt w M' b m d g gd n k := by
  refine { h with Mb := h1, Mm := h2, Md := h3, has := ?_ }
  obtain ⟨gv, e1, e2⟩ := h.has
  refine ⟨gv, e1, fun c => ?_⟩
  rcases e2 c with e | ⟨v, o, e3, e4, e5⟩
  · exact .inl e
  · refine .inr ⟨v, o, e3, e4, ?_⟩
    rcases e5 with e | ⟨h, l, e6, e7, e8, e9, e10⟩
    · exact .inl e
    · exact .inr ⟨h, l, e6, e7, e8, e9, fun hm => e10 (hM _ hm)⟩

end Go.Proofs.YtjekpbkmhgfhoaaGreatDoor
end
