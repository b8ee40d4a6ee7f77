/- The walks of package body: Lose, Del, Clean, Clone. -/
import Derived.Test.YtjmbilbkmcebeaaDoorBodySet
namespace Go.Proofs.YtjmbilbkmcebeaaDoor
open Go Go.RowKit
set_option maxRecDepth 100000
set_option linter.unusedSimpArgs false
attribute [local go_sem] giv
variable {E : Nat → Addr} {B : Nat}

section
variable {w : World} {M : Nat → Prop} {b m d : Nat} {g : Cl → Option (Option (List Int))} {gd : Cl → Option Int} {n k : Nat}

theorem BodyAt.delm {w1 : World} (h : BodyAt w M b m d g gd n k) {c : Cl} {gv : Cl → Option Value} {n1 : Nat} (hc : ∀ c, (gv c = none ∧ g c = none) ∨ ∃ v o, gv c = some v ∧ g c = some o ∧ Blk w M v o)
    (hm : VMap w1 m (del gv c) n1) (ht : w.mapTurned w1 m) : BodyAt w1 M b m d (del g c) gd n1 k := by
  have t := Touch.of_turned ht
  refine { h with cm := (t.cell (p := ⟨b, 0, none⟩) h.lt (Ne.symm h.mb)).trans h.cm, cd := (t.cell (p := ⟨b, 1, none⟩) h.lt (Ne.symm h.mb)).trans h.cd, fm := (t.frozen (p := ⟨b, 0, none⟩) h.lt (Ne.symm h.mb)).trans h.fm, fd := (t.frozen (p := ⟨b, 1, none⟩) h.lt (Ne.symm h.mb)).trans h.fd, lt := Nat.lt_of_lt_of_le h.lt t.size, dirty := h.dirty.touch t (Ne.symm h.md), has := ⟨_, hm, fun c' => ?_⟩ }
  have tm : ∀ v o, Blk w M v o → Blk w1 M v o := fun v o hb => hb.touch t fun x hx => by rw [hx]; exact h.Mm
  by_cases hcc : c' = c
  · subst hcc
    exact .inl ⟨by simp [del], by simp [del]⟩
  · rcases hc c' with ⟨e1, e2⟩ | ⟨v', o', e1, e2, e3⟩
    · exact .inl ⟨by simp [del, hcc, e1], by simp [del, hcc, e2]⟩
    · exact .inr ⟨v', o', by simp [del, hcc, e1], by simp [del, hcc, e2], tm _ _ e3⟩

theorem blose_no (h : BodyAt w M b m d g gd n k) {c : Cl} (hi1 : In64 c.1) (hi2 : In64 c.2) (hg : g c = none) :
    Calls Tryd.prog 18 #[.pointer (some ⟨b, 0, none⟩), .agg #[.int .i64 c.1, .int .i64 c.2]] w fun e w' => e = .returned (.bool false) ∧ Below w.heap.size w w' := by
  have H := Lib.hid h
  have HG := Lib.hid hg
  clear h hg
  go_enter Tryd.func18, Tryd.ntmps18
  go_wp2_with fail
  refine (bhas_any (H.out.below (bl_alloc (Below.refl _ _) _)) hi1 hi2).mono ?_
  rintro e w3 ⟨rfl, hb3⟩
  rw [HG.out]
  go_wp2
  go_ret
  exact ⟨rfl, (bl_alloc (Below.refl _ _) _).trans (hb3.mono (by simp))⟩

theorem bdel_no (h : BodyAt w M b m d g gd n k) {c : Cl} (hi1 : In64 c.1) (hi2 : In64 c.2) (hg : g c = none) :
    Calls Tryd.prog 24 #[.pointer (some ⟨b, 0, none⟩), .agg #[.int .i64 c.1, .int .i64 c.2]] w fun e w' => e = .returned (.bool false) ∧ Below w.heap.size w w' := by
  have H := Lib.hid h
  have HG := Lib.hid hg
  clear h hg
  go_enter Tryd.func24, Tryd.ntmps24
  go_wp2_with fail
  refine (bhas_any (H.out.below (bl_alloc (Below.refl _ _) _)) hi1 hi2).mono ?_
  rintro e w3 ⟨rfl, hb3⟩
  rw [HG.out]
  go_wp2
  go_ret
  exact ⟨rfl, (bl_alloc (Below.refl _ _) _).trans (hb3.mono (by simp))⟩

set_option maxHeartbeats 1000000 in
theorem blose_ok (h : BodyAt w M b m d g gd n k) {c : Cl} (hi1 : In64 c.1) (hi2 : In64 c.2) {o : Option (List Int)} (hg : g c = some o) :
    Calls Tryd.prog 18 #[.pointer (some ⟨b, 0, none⟩), .agg #[.int .i64 c.1, .int .i64 c.2]] w fun e w' =>
      e = .returned (.bool true) ∧ BodyOut M b m d (upd g c none) (del gd c) w w' := by
  obtain ⟨lk, hlk⟩ := keyC hi1 hi2
  have H := Lib.hid h
  have hsome : (g c).isSome = true := by rw [hg]; rfl
  have HS := Lib.hid hsome
  clear h hsome hg
  go_enter Tryd.func18, Tryd.ntmps18
  go_wp2_with fail
  refine (bhas_any (H.out.below (bl_alloc (Below.refl _ _) _)) hi1 hi2).mono ?_
  rintro e w3 ⟨rfl, hb3⟩
  rw [HS.out]
  have hbw : Below w.heap.size w w3 := (bl_alloc (Below.refl _ _) _).trans (hb3.mono (by simp))
  have H3 := Lib.hid (H.out.below hbw)
  have T3 := Lib.hid (Touch.of_below hbw (fun x => x = m ∨ x = d))
  have x0 : w3.cell? ⟨w.heap.size, 0, none⟩ = some (.int .i64 c.1) := by rw [hb3.cell (p := ⟨w.heap.size, 0, none⟩) (by simp)]; simp
  have x1 : w3.cell? ⟨w.heap.size, 1, none⟩ = some (.int .i64 c.2) := by rw [hb3.cell (p := ⟨w.heap.size, 1, none⟩) (by simp)]; simp
  have Y3 := Lib.hid (And.intro x0 x1)
  have LX3 : Hid (w.heap.size < w3.heap.size) := Lib.hid (by have := hb3.size; simp at this; omega)
  have ND : Hid (w.heap.size ≠ m ∧ w.heap.size ≠ d) := Lib.hid (by have := H.out.ltm; have := H.out.ltd; omega)
  clear x0 x1 hb3 hbw
  generalize w.heap.size = bx at *
  go_wp2_with fail
  have S : ∀ w', Below w3.heap.size w3 w' → w'.cell? ⟨b, 0, none⟩ = some (.map (some m)) ∧ w'.cell? ⟨bx, 0, none⟩ = some (.int .i64 c.1) ∧ w'.cell? ⟨bx, 1, none⟩ = some (.int .i64 c.2) := by
    intro w' hb
    obtain ⟨hc, _⟩ := bcell hb
    exact ⟨(H3.out.below hb).cm, (hc _ _ LX3.out).trans Y3.out.1, (hc _ _ LX3.out).trans Y3.out.2⟩
  apply wp_region_tail 5 _ (by kernel_rfl) (by kernel_rfl) (by kernel_rfl) (by decide) (fun w' => Below w3.heap.size w3 w') (fun w' w'' => Below w'.heap.size w' w'') (fun w' w'' h1 h2 => bl_trans h1 h2) (Below.refl _ _).drew
  simp only [List.take_succ_cons, List.take_zero, List.drop_succ_cons, List.drop_zero]
  repeat (first
    | (apply wpRel_skip (by rfl)
       simp only [Act.put, List.setIfInBounds_toArray, List.set_cons_zero, List.set_cons_succ])
    | (apply wpRel_fix (by rfl)
       · intro w' hC hf R hR
         go_simp
         exact hR _ (Below.refl _ _)
       simp only [Act.put, List.setIfInBounds_toArray, List.set_cons_zero, List.set_cons_succ]))
  refine wpRel_nil (fun w4 hC hf => ?_)
  clear S hf
  have H3' := H3.out.below hC
  obtain ⟨gv, hgv, hrel⟩ := H3'.has
  apply wpList_upd rfl _ _ _ _ rfl
  · exact hgv.put kdCell Tryd.underlying104 encC_inj hlk (.slice none 0 0)
  rintro w5 ⟨hm5, ht5⟩
  have H5 := Lib.hid (H3'.putm hrel hm5 ht5 (o := none) (.inl ⟨rfl, rfl⟩))
  have T5 := Lib.hid ((T3.out.then hC).trans (Touch.of_turned ht5) (fun x hx _ => .inl hx))
  have Y5 : Hid (w5.cell? ⟨bx, 0, none⟩ = some (.int .i64 c.1) ∧ w5.cell? ⟨bx, 1, none⟩ = some (.int .i64 c.2)) := Lib.hid ⟨by rw [(turned_cell ht5).1 _ _ ND.out.1, hC.cell (p := ⟨bx, 0, none⟩) LX3.out]; exact Y3.out.1, by rw [(turned_cell ht5).1 _ _ ND.out.1, hC.cell (p := ⟨bx, 1, none⟩) LX3.out]; exact Y3.out.2⟩
  have LX5 : Hid (bx < w5.heap.size) := Lib.hid (by have := (turned_cell ht5).2.2; have := hC.size; have := LX3.out; omega)
  clear hm5 ht5 hC H3' hgv hrel H3 T3 Y3 LX3
  go_wp2_with fail
  have S : ∀ w', Below w5.heap.size w5 w' → w'.cell? ⟨b, 1, none⟩ = some (.map (some d)) ∧ w'.cell? ⟨bx, 0, none⟩ = some (.int .i64 c.1) ∧ w'.cell? ⟨bx, 1, none⟩ = some (.int .i64 c.2) := by
    intro w' hb
    obtain ⟨hc, _⟩ := bcell hb
    exact ⟨(H5.out.below hb).cd, (hc _ _ LX5.out).trans Y5.out.1, (hc _ _ LX5.out).trans Y5.out.2⟩
  apply wp_region_tail 5 _ (by kernel_rfl) (by kernel_rfl) (by kernel_rfl) (by decide) (fun w' => Below w5.heap.size w5 w') (fun w' w'' => Below w'.heap.size w' w'') (fun w' w'' h1 h2 => bl_trans h1 h2) (Below.refl _ _).drew
  simp only [List.take_succ_cons, List.take_zero, List.drop_succ_cons, List.drop_zero]
  repeat (first
    | (apply wpRel_skip (by rfl)
       simp only [Act.put, List.setIfInBounds_toArray, List.set_cons_zero, List.set_cons_succ])
    | (apply wpRel_fix (by rfl)
       · intro w' hC hf R hR
         go_simp
         exact hR _ (Below.refl _ _)
       simp only [Act.put, List.setIfInBounds_toArray, List.set_cons_zero, List.set_cons_succ]))
  refine wpRel_nil (fun w6 hC hf => ?_)
  clear S hf
  have H5' := H5.out.below hC
  apply wpList_drop rfl _ _ _ _ rfl
  · exact H5'.dirty.drop kdCell Tryd.underlying105 encC_inj hlk _
  rintro w7 ⟨hm7, ht7⟩
  have H7 := Lib.hid (H5'.putd hm7 ht7)
  have T7 := Lib.hid ((T5.out.then hC).trans (Touch.of_turned ht7) (fun x hx _ => .inr hx))
  clear hm7 ht7 hC H5' H5 T5
  go_wp2
  go_ret
  exact ⟨rfl, ⟨_, _, H7.out⟩, T7.out⟩

set_option maxHeartbeats 1000000 in
theorem bdel_ok (h : BodyAt w M b m d g gd n k) {c : Cl} (hi1 : In64 c.1) (hi2 : In64 c.2) {o : Option (List Int)} (hg : g c = some o) :
    Calls Tryd.prog 24 #[.pointer (some ⟨b, 0, none⟩), .agg #[.int .i64 c.1, .int .i64 c.2]] w fun e w' =>
      e = .returned (.bool true) ∧ BodyOut M b m d (del g c) (upd gd c 1) w w' := by
  obtain ⟨lk, hlk⟩ := keyC hi1 hi2
  have H := Lib.hid h
  have hsome : (g c).isSome = true := by rw [hg]; rfl
  have HS := Lib.hid hsome
  clear h hsome hg
  go_enter Tryd.func24, Tryd.ntmps24
  go_wp2_with fail
  refine (bhas_any (H.out.below (bl_alloc (Below.refl _ _) _)) hi1 hi2).mono ?_
  rintro e w3 ⟨rfl, hb3⟩
  rw [HS.out]
  have hbw : Below w.heap.size w w3 := (bl_alloc (Below.refl _ _) _).trans (hb3.mono (by simp))
  have H3 := Lib.hid (H.out.below hbw)
  have T3 := Lib.hid (Touch.of_below hbw (fun x => x = m ∨ x = d))
  have x0 : w3.cell? ⟨w.heap.size, 0, none⟩ = some (.int .i64 c.1) := by rw [hb3.cell (p := ⟨w.heap.size, 0, none⟩) (by simp)]; simp
  have x1 : w3.cell? ⟨w.heap.size, 1, none⟩ = some (.int .i64 c.2) := by rw [hb3.cell (p := ⟨w.heap.size, 1, none⟩) (by simp)]; simp
  have Y3 := Lib.hid (And.intro x0 x1)
  have LX3 : Hid (w.heap.size < w3.heap.size) := Lib.hid (by have := hb3.size; simp at this; omega)
  have ND : Hid (w.heap.size ≠ m ∧ w.heap.size ≠ d) := Lib.hid (by have := H.out.ltm; have := H.out.ltd; omega)
  clear x0 x1 hb3 hbw
  generalize w.heap.size = bx at *
  go_wp2_with fail
  have S : ∀ w', Below w3.heap.size w3 w' → w'.cell? ⟨b, 0, none⟩ = some (.map (some m)) ∧ w'.cell? ⟨bx, 0, none⟩ = some (.int .i64 c.1) ∧ w'.cell? ⟨bx, 1, none⟩ = some (.int .i64 c.2) := by
    intro w' hb
    obtain ⟨hc, _⟩ := bcell hb
    exact ⟨(H3.out.below hb).cm, (hc _ _ LX3.out).trans Y3.out.1, (hc _ _ LX3.out).trans Y3.out.2⟩
  apply wp_region_tail 5 _ (by kernel_rfl) (by kernel_rfl) (by kernel_rfl) (by decide) (fun w' => Below w3.heap.size w3 w') (fun w' w'' => Below w'.heap.size w' w'') (fun w' w'' h1 h2 => bl_trans h1 h2) (Below.refl _ _).drew
  simp only [List.take_succ_cons, List.take_zero, List.drop_succ_cons, List.drop_zero]
  repeat (first
    | (apply wpRel_skip (by rfl)
       simp only [Act.put, List.setIfInBounds_toArray, List.set_cons_zero, List.set_cons_succ])
    | (apply wpRel_fix (by rfl)
       · intro w' hC hf R hR
         go_simp
         exact hR _ (Below.refl _ _)
       simp only [Act.put, List.setIfInBounds_toArray, List.set_cons_zero, List.set_cons_succ]))
  refine wpRel_nil (fun w4 hC hf => ?_)
  clear S hf
  have H3' := H3.out.below hC
  obtain ⟨gv, hgv, hrel⟩ := H3'.has
  apply wpList_drop rfl _ _ _ _ rfl
  · exact hgv.drop kdCell Tryd.underlying104 encC_inj hlk _
  rintro w5 ⟨hm5, ht5⟩
  have H5 := Lib.hid (H3'.delm hrel hm5 ht5)
  have T5 := Lib.hid ((T3.out.then hC).trans (Touch.of_turned ht5) (fun x hx _ => .inl hx))
  have Y5 : Hid (w5.cell? ⟨bx, 0, none⟩ = some (.int .i64 c.1) ∧ w5.cell? ⟨bx, 1, none⟩ = some (.int .i64 c.2)) := Lib.hid ⟨by rw [(turned_cell ht5).1 _ _ ND.out.1, hC.cell (p := ⟨bx, 0, none⟩) LX3.out]; exact Y3.out.1, by rw [(turned_cell ht5).1 _ _ ND.out.1, hC.cell (p := ⟨bx, 1, none⟩) LX3.out]; exact Y3.out.2⟩
  have LX5 : Hid (bx < w5.heap.size) := Lib.hid (by have := (turned_cell ht5).2.2; have := hC.size; have := LX3.out; omega)
  clear hm5 ht5 hC H3' hgv hrel H3 T3 Y3 LX3
  go_wp2_with fail
  have S : ∀ w', Below w5.heap.size w5 w' → w'.cell? ⟨b, 1, none⟩ = some (.map (some d)) ∧ w'.cell? ⟨bx, 0, none⟩ = some (.int .i64 c.1) ∧ w'.cell? ⟨bx, 1, none⟩ = some (.int .i64 c.2) := by
    intro w' hb
    obtain ⟨hc, _⟩ := bcell hb
    exact ⟨(H5.out.below hb).cd, (hc _ _ LX5.out).trans Y5.out.1, (hc _ _ LX5.out).trans Y5.out.2⟩
  apply wp_region_tail 5 _ (by kernel_rfl) (by kernel_rfl) (by kernel_rfl) (by decide) (fun w' => Below w5.heap.size w5 w') (fun w' w'' => Below w'.heap.size w' w'') (fun w' w'' h1 h2 => bl_trans h1 h2) (Below.refl _ _).drew
  simp only [List.take_succ_cons, List.take_zero, List.drop_succ_cons, List.drop_zero]
  repeat (first
    | (apply wpRel_skip (by rfl)
       simp only [Act.put, List.setIfInBounds_toArray, List.set_cons_zero, List.set_cons_succ])
    | (apply wpRel_fix (by rfl)
       · intro w' hC hf R hR
         go_simp
         exact hR _ (Below.refl _ _)
       simp only [Act.put, List.setIfInBounds_toArray, List.set_cons_zero, List.set_cons_succ]))
  refine wpRel_nil (fun w6 hC hf => ?_)
  clear S hf
  have H5' := H5.out.below hC
  apply wpList_upd rfl _ _ _ _ rfl
  · exact H5'.dirty.put kdCell Tryd.underlying105 encC_inj hlk 1
  rintro w7 ⟨hm7, ht7⟩
  have H7 := Lib.hid (H5'.putd hm7 ht7)
  have T7 := Lib.hid ((T5.out.then hC).trans (Touch.of_turned ht7) (fun x hx _ => .inr hx))
  clear hm7 ht7 hC H5' H5 T5
  go_wp2
  go_ret
  exact ⟨rfl, ⟨_, _, H7.out⟩, T7.out⟩
end
end Go.Proofs.YtjmbilbkmcebeaaDoor
