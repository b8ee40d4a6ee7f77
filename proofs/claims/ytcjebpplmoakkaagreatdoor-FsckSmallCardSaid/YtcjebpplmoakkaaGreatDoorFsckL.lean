/- A copy of a device that was never written; fsck.Look. -/
import Derived.Test.YtcjebpplmoakkaaGreatDoorFsckN
namespace Go.Proofs.YtcjebpplmoakkaaGreatDoor
open Go Go.RowKit
set_option maxRecDepth 100000
set_option linter.unusedSimpArgs false
set_option linter.unusedVariables false
attribute [local go_sem] giv
variable {E : Nat → Addr} {B : Nat} {w w' : World} {d bl : Nat} {calls fuse : Int} {dn : Bool}
theorem mclone_bs {r : Nat} (h : MapE w r) : Calls Tryz.prog 80 #[.map (some r)] w fun e w' =>
    (∃ m, e = .returned (.map (some m)) ∧ MapE w' m) ∧ Below w.heap.size w w' := by
  obtain ⟨es, clk, _, hb, hc⟩ := h.copy
  have hq := fun w => run_eql_map_nil_sl (P := Tryz.prog) w 40 _ _ (some r) Tryz.underlying40
  clear h
  go_enter Tryz.func80, Tryz.ntmps80
  go_wp2
  rw [run_callFunc_extern Tryz.func143 (by kernel_rfl) (by kernel_rfl) (by kernel_rfl) (e := Extern.MapsClone.clone) (by kernel_rfl), run_maps_clone_sl w 40 hb]
  simp only [Result.andThen]
  rw [Oper.upon_value]
  go_wp2
  rw [run_typeAssert_map_sl _ 40 _ _ _ _ Tryz.underlying40]
  simp only [Result.andThen]
  rw [Oper.upon_value]
  go_wp2
  go_ret
  exact ⟨⟨_, rfl, hc w⟩, bl_alloc (Below.refl _ _) _⟩
theorem mclone_bo {r : Nat} (h : MapE w r) : Calls Tryz.prog 81 #[.map (some r)] w fun e w' =>
    (∃ m, e = .returned (.map (some m)) ∧ MapE w' m) ∧ Below w.heap.size w w' := by
  obtain ⟨es, clk, _, hb, hc⟩ := h.copy
  have hq := fun w => run_eql_map_nil_sl (P := Tryz.prog) w 41 _ _ (some r) Tryz.underlying41
  clear h
  go_enter Tryz.func81, Tryz.ntmps81
  go_wp2
  rw [run_callFunc_extern Tryz.func143 (by kernel_rfl) (by kernel_rfl) (by kernel_rfl) (e := Extern.MapsClone.clone) (by kernel_rfl), run_maps_clone_sl w 41 hb]
  simp only [Result.andThen]
  rw [Oper.upon_value]
  go_wp2
  rw [run_typeAssert_map_sl _ 41 _ _ _ _ Tryz.underlying41]
  simp only [Result.andThen]
  rw [Oper.upon_value]
  go_wp2
  go_ret
  exact ⟨⟨_, rfl, hc w⟩, bl_alloc (Below.refl _ _) _⟩

set_option maxHeartbeats 2000000 in
theorem dev_clone (h : DevN w d bl calls fuse dn) : Calls Tryz.prog 32 #[.pointer (some ⟨d, 0, none⟩)] w fun e w' => (∃ d', e = .returned (.pointer (some ⟨d', 0, none⟩)) ∧ DevN w' d' bl calls fuse dn) ∧ Below w.heap.size w w' := by
  have H := Lib.hid h
  obtain ⟨m1, m2, m3, m4, m5, h0, h1, h2, h3, h4, h5⟩ := h
  have H0 := Lib.hid h0
  have HM := Lib.hid (And.intro h1 (And.intro h2 (And.intro h3 (And.intro h4 h5))))
  have c0 := h0.cell' (i := 0) rfl
  have c1 := h0.cell' (i := 1) rfl
  have c2 := h0.cell' (i := 2) rfl
  have c3 := h0.cell' (i := 3) rfl
  have c4 := h0.cell' (i := 4) rfl
  have c5 := h0.cell' (i := 5) rfl
  have c6 := h0.cell' (i := 6) rfl
  have c7 := h0.cell' (i := 7) rfl
  have c8 := h0.cell' (i := 8) rfl
  have lt := h0.lt
  obtain ⟨D, hD⟩ : ∃ D, w.heap.size = D := ⟨_, rfl⟩
  obtain ⟨w1, hw1⟩ : ∃ w1, w1 = w.alloc (.cells (devC bl calls fuse dn m1 m2 m3 m4 m5).toArray 43) := ⟨_, rfl⟩
  have hb1 : Below w.heap.size w w1 := by rw [hw1]; exact bl_alloc (Below.refl _ _) _
  have r1 : Row w1 D 43 (devC bl calls fuse dn m1 m2 m3 m4 m5) := by rw [hw1, ← hD]; exact Row.new _ _ _
  have HB1 := Lib.hid hb1
  have R1 := Lib.hid r1
  have HW1 := Lib.hid hw1
  have HD := Lib.hid hD
  generalize hP : (fun (e : Ending) (w' : World) => (∃ d', e = .returned (.pointer (some ⟨d', 0, none⟩)) ∧ DevN w' d' bl calls fuse dn) ∧ Below w.heap.size w w') = Post
  have HP := Lib.hid hP
  clear hP h0 h1 h2 h3 h4 h5 hb1 r1 hw1 hD
  go_enter Tryz.func32, Tryz.ntmps32
  go_upto_region 2 with fail
  rw [← HW1.out]
  simp only [HD.out]
  have S : ∀ w', Below w1.heap.size w1 w' → w'.cell? ⟨d, 1, none⟩ = some (.map (some m1)) ∧ w'.cell? ⟨d, 2, none⟩ = some (.map (some m2)) ∧ d < w'.heap.size := fun w' hb => by
    have r := (H0.out.below HB1.out).below hb
    exact ⟨r.cell' (i := 1) rfl, r.cell' (i := 2) rfl, r.lt⟩
  clear c0 c1 c2 c3 c4 c5 c6 c7 c8 lt
  apply wp_region_tail 10 _ (by kernel_rfl) (by kernel_rfl) (by kernel_rfl) (by decide) (fun w' => Below w1.heap.size w1 w') (fun w' w'' => Below w'.heap.size w' w'') (fun w' w'' h1 h2 => bl_trans h1 h2) (Below.refl _ _).drew
  simp only [List.take_succ_cons, List.take_zero, List.drop_succ_cons, List.drop_zero]
  repeat (first
    | (apply wpRel_skip (by rfl)
       simp only [Act.put, List.setIfInBounds_toArray, List.set_cons_zero, List.set_cons_succ])
    | (apply wpRel_fix (by rfl)
       · intro w' hC hf R hR
         have hS := S w' hC
         go_simp
         exact hR _ (Below.refl _ _)
       simp only [Act.put, List.setIfInBounds_toArray, List.set_cons_zero, List.set_cons_succ]))
  apply wpRel_rel (fun v w' => ∃ m, v = .map (some m) ∧ MapE w' m) (by rfl) (fun _ _ _ ⟨m, h1, h2⟩ hb => ⟨m, h1, h2.below hb⟩)
  · intro w' hC hf R hR
    go_simp
    refine (mclone_bs ((HM.out.1.below HB1.out).below hC)).mono ?_
    rintro e w'' ⟨⟨m, rfl, hm⟩, hb⟩
    exact ⟨_, rfl, hR _ _ ⟨m, rfl, hm⟩ hb⟩
  intro v11
  simp only [Act.put, List.setIfInBounds_toArray, List.set_cons_zero, List.set_cons_succ]
  repeat (first
    | (apply wpRel_skip (by rfl)
       simp only [Act.put, List.setIfInBounds_toArray, List.set_cons_zero, List.set_cons_succ])
    | (apply wpRel_fix (by rfl)
       · intro w' hC hf R hR
         have hS := S w' hC
         go_simp
         exact hR _ (Below.refl _ _)
       simp only [Act.put, List.setIfInBounds_toArray, List.set_cons_zero, List.set_cons_succ]))
  apply wpRel_rel (fun v w' => ∃ m, v = .map (some m) ∧ MapE w' m) (by rfl) (fun _ _ _ ⟨m, h1, h2⟩ hb => ⟨m, h1, h2.below hb⟩)
  · intro w' hC hf R hR
    go_simp
    refine (mclone_bs ((HM.out.2.1.below HB1.out).below hC)).mono ?_
    rintro e w'' ⟨⟨m, rfl, hm⟩, hb⟩
    exact ⟨_, rfl, hR _ _ ⟨m, rfl, hm⟩ hb⟩
  intro v16
  simp only [Act.put, List.setIfInBounds_toArray, List.set_cons_zero, List.set_cons_succ]
  refine wpRel_nil (fun w2 hC hf => ?_)
  obtain ⟨ma, rfl, ha⟩ := hf _ (List.mem_cons_of_mem _ (List.mem_cons_self ..))
  obtain ⟨mb, rfl, hb⟩ := hf _ (List.mem_cons_self ..)
  have r2 := R1.out.below hC
  have HB2 := Lib.hid (HB1.out.trans (hC.mono HB1.out.size))
  have HA := Lib.hid ha
  have HB := Lib.hid hb
  have R2 := Lib.hid r2
  have x1 := r2.cell' (i := 1) rfl
  have x2 := r2.cell' (i := 2) rfl
  have xf := fun i => r2.froz i
  have xl := r2.lt
  clear hC hf S ha hb r2
  go_upto_region 3 with fail
  obtain ⟨w3, hw3⟩ : ∃ w3, w3 = (w2.setCell ⟨D, 1, none⟩ (.map (some ma))).setCell ⟨D, 2, none⟩ (.map (some mb)) := ⟨_, rfl⟩
  have hdd : d ≠ D := by have := H0.out.lt; have := HD.out; omega
  have hDD : w.heap.size ≤ D := Nat.le_of_eq HD.out
  have ra := R2.out.set 1 (.map (some ma))
  have r3 : Row w3 D 43 (devC bl calls fuse dn ma mb m3 m4 m5) := by rw [hw3]; exact ra.set 2 _
  have keep : ∀ m, MapE w2 m → MapE w3 m := fun m hm => by rw [hw3]; exact (hm.other R2.out _ _).other ra _ _
  have rs : Row w3 d 43 (devC bl calls fuse dn m1 m2 m3 m4 m5) := by
    rw [hw3]
    exact ((H0.out.below HB2.out).other (p := ⟨D, 1, none⟩) hdd _).other (p := ⟨D, 2, none⟩) hdd _
  have HB3 : Hid (Below w.heap.size w w3) := Lib.hid (by rw [hw3]; exact (HB2.out.setCell (p := ⟨D, 1, none⟩) hDD _).setCell (p := ⟨D, 2, none⟩) hDD _)
  have HMA := Lib.hid (keep ma HA.out)
  have HMB := Lib.hid (keep mb HB.out)
  have HM3 := Lib.hid (keep m3 (HM.out.2.2.1.below HB2.out))
  have HM4 := Lib.hid (keep m4 (HM.out.2.2.2.1.below HB2.out))
  have HM5 := Lib.hid (keep m5 (HM.out.2.2.2.2.below HB2.out))
  have R3 := Lib.hid r3
  have RS := Lib.hid rs
  have HW3 := Lib.hid hw3
  have HDD := Lib.hid hDD
  clear hdd hDD ra r3 keep rs hw3 x1 x2 xf xl
  rw [← HW3.out]
  have S : ∀ w', Below w3.heap.size w3 w' → w'.cell? ⟨d, 3, none⟩ = some (.map (some m3)) ∧ w'.cell? ⟨d, 4, none⟩ = some (.map (some m4)) ∧ w'.cell? ⟨d, 5, none⟩ = some (.map (some m5)) ∧ d < w'.heap.size := fun w' hb => by
    have r := RS.out.below hb
    exact ⟨r.cell' (i := 3) rfl, r.cell' (i := 4) rfl, r.cell' (i := 5) rfl, r.lt⟩
  apply wp_region_tail 15 _ (by kernel_rfl) (by kernel_rfl) (by kernel_rfl) (by decide) (fun w' => Below w3.heap.size w3 w') (fun w' w'' => Below w'.heap.size w' w'') (fun w' w'' h1 h2 => bl_trans h1 h2) (Below.refl _ _).drew
  simp only [List.take_succ_cons, List.take_zero, List.drop_succ_cons, List.drop_zero]
  repeat (first
    | (apply wpRel_skip (by rfl)
       simp only [Act.put, List.setIfInBounds_toArray, List.set_cons_zero, List.set_cons_succ])
    | (apply wpRel_fix (by rfl)
       · intro w' hC hf R hR
         have hS := S w' hC
         go_simp
         exact hR _ (Below.refl _ _)
       simp only [Act.put, List.setIfInBounds_toArray, List.set_cons_zero, List.set_cons_succ]))
  apply wpRel_rel (fun v w' => ∃ m, v = .map (some m) ∧ MapE w' m) (by rfl) (fun _ _ _ ⟨m, h1, h2⟩ hb => ⟨m, h1, h2.below hb⟩)
  · intro w' hC hf R hR
    go_simp
    refine (mclone_bo (HM3.out.below hC)).mono ?_
    rintro e w'' ⟨⟨m, rfl, hm⟩, hb⟩
    exact ⟨_, rfl, hR _ _ ⟨m, rfl, hm⟩ hb⟩
  intro v23
  simp only [Act.put, List.setIfInBounds_toArray, List.set_cons_zero, List.set_cons_succ]
  repeat (first
    | (apply wpRel_skip (by rfl)
       simp only [Act.put, List.setIfInBounds_toArray, List.set_cons_zero, List.set_cons_succ])
    | (apply wpRel_fix (by rfl)
       · intro w' hC hf R hR
         have hS := S w' hC
         go_simp
         exact hR _ (Below.refl _ _)
       simp only [Act.put, List.setIfInBounds_toArray, List.set_cons_zero, List.set_cons_succ]))
  apply wpRel_rel (fun v w' => ∃ m, v = .map (some m) ∧ MapE w' m) (by rfl) (fun _ _ _ ⟨m, h1, h2⟩ hb => ⟨m, h1, h2.below hb⟩)
  · intro w' hC hf R hR
    go_simp
    refine (mclone_bo (HM4.out.below hC)).mono ?_
    rintro e w'' ⟨⟨m, rfl, hm⟩, hb⟩
    exact ⟨_, rfl, hR _ _ ⟨m, rfl, hm⟩ hb⟩
  intro v28
  simp only [Act.put, List.setIfInBounds_toArray, List.set_cons_zero, List.set_cons_succ]
  repeat (first
    | (apply wpRel_skip (by rfl)
       simp only [Act.put, List.setIfInBounds_toArray, List.set_cons_zero, List.set_cons_succ])
    | (apply wpRel_fix (by rfl)
       · intro w' hC hf R hR
         have hS := S w' hC
         go_simp
         exact hR _ (Below.refl _ _)
       simp only [Act.put, List.setIfInBounds_toArray, List.set_cons_zero, List.set_cons_succ]))
  apply wpRel_rel (fun v w' => ∃ m, v = .map (some m) ∧ MapE w' m) (by rfl) (fun _ _ _ ⟨m, h1, h2⟩ hb => ⟨m, h1, h2.below hb⟩)
  · intro w' hC hf R hR
    go_simp
    refine (mclone_bo (HM5.out.below hC)).mono ?_
    rintro e w'' ⟨⟨m, rfl, hm⟩, hb⟩
    exact ⟨_, rfl, hR _ _ ⟨m, rfl, hm⟩ hb⟩
  intro v33
  simp only [Act.put, List.setIfInBounds_toArray, List.set_cons_zero, List.set_cons_succ]
  refine wpRel_nil (fun w4 hC hf => ?_)
  obtain ⟨mc, rfl, hc⟩ := hf _ (List.mem_cons_of_mem _ (List.mem_cons_of_mem _ (List.mem_cons_self ..)))
  obtain ⟨md, rfl, hd⟩ := hf _ (List.mem_cons_of_mem _ (List.mem_cons_self ..))
  obtain ⟨me, rfl, he⟩ := hf _ (List.mem_cons_self ..)
  have r4 := R3.out.below hC
  have HB4 := Lib.hid (HB3.out.trans (hC.mono HB3.out.size))
  have HMC := Lib.hid (And.intro (HMA.out.below hC) (And.intro (HMB.out.below hC) (And.intro hc (And.intro hd he))))
  have R4 := Lib.hid r4
  have x3 := r4.cell' (i := 3) rfl
  have x4 := r4.cell' (i := 4) rfl
  have x5 := r4.cell' (i := 5) rfl
  have xf := fun i => r4.froz i
  have xl := r4.lt
  clear hC hf S hc hd he r4
  go_wp2
  rw [← HP.out]
  have rc := R4.out.set 3 (.map (some mc))
  have rd := rc.set 4 (.map (some md))
  have re := rd.set 5 (.map (some me))
  have keep : ∀ m, MapE w4 m → MapE (((w4.setCell ⟨D, 3, none⟩ (.map (some mc))).setCell ⟨D, 4, none⟩ (.map (some md))).setCell ⟨D, 5, none⟩ (.map (some me))) m := fun m hm => ((hm.other R4.out _ _).other rc _ _).other rd _ _
  obtain ⟨k1, k2, k3, k4, k5⟩ := HMC.out
  have hfin : (∃ d', Ending.returned (Value.pointer (some ⟨D, 0, none⟩)) = .returned (.pointer (some ⟨d', 0, none⟩)) ∧ DevN (((w4.setCell ⟨D, 3, none⟩ (.map (some mc))).setCell ⟨D, 4, none⟩ (.map (some md))).setCell ⟨D, 5, none⟩ (.map (some me))) d' bl calls fuse dn) ∧ Below w.heap.size w (((w4.setCell ⟨D, 3, none⟩ (.map (some mc))).setCell ⟨D, 4, none⟩ (.map (some md))).setCell ⟨D, 5, none⟩ (.map (some me))) :=
    ⟨⟨D, rfl, ma, mb, mc, md, me, re, keep _ k1, keep _ k2, keep _ k3, keep _ k4, keep _ k5⟩, ((HB4.out.setCell (p := ⟨D, 3, none⟩) HDD.out _).setCell (p := ⟨D, 4, none⟩) HDD.out _).setCell (p := ⟨D, 5, none⟩) HDD.out _⟩
  first
    | exact hfin
    | (go_ret; exact hfin)
theorem fsck_look (h : DevN w d bl calls fuse false) (h1 : 300 ≤ bl) (h2 : bl ≤ 6000) (hE : Env E B w) : Calls Tryz.prog 10 #[.pointer (some ⟨d, 0, none⟩)] w fun e w' => e = .returned (.tuple #[repZ, errV E 2]) ∧ Below w.heap.size w w' := by
  have H := Lib.hid h
  have HE := Lib.hid hE
  obtain ⟨C, hC⟩ : ∃ C, w.heap.size = C := ⟨_, rfl⟩
  obtain ⟨w1, hw1⟩ : ∃ w1, w1 = w.alloc (.cells repC.toArray 34) := ⟨_, rfl⟩
  have hb1 : Below w.heap.size w w1 := by rw [hw1]; exact bl_alloc (Below.refl _ _) _
  have R1 : Hid (Row w1 C 34 repC) := Lib.hid (by rw [hw1, ← hC]; exact Row.new _ _ _)
  have HB1 := Lib.hid hb1
  have HW1 := Lib.hid hw1
  have HC := Lib.hid hC
  have HCC : Hid (w.heap.size ≤ C) := Lib.hid (Nat.le_of_eq hC)
  generalize hP : (fun (e : Ending) (w' : World) => e = .returned (.tuple #[repZ, errV E 2]) ∧ Below w.heap.size w w') = Post
  have HP := Lib.hid hP
  clear hP h hE hC hw1 hb1
  go_enter Tryz.func10, Tryz.ntmps10
  go_wp2_with fail
  rw [← HW1.out]
  simp only [HC.out]
  refine (dev_clone (H.out.below HB1.out)).mono ?_
  rintro e w2 ⟨⟨d', rfl, h2⟩, hb2⟩
  have H2 := Lib.hid h2
  have HB2 := Lib.hid (HB1.out.trans (hb2.mono HB1.out.size))
  have R2 := Lib.hid (R1.out.below hb2)
  clear h2 hb2
  go_wp2_with fail
  refine (fsck_check H2.out h1 h2 (HE.out.below HB2.out)).mono ?_
  rintro e w3 ⟨rfl, hb3⟩
  have HB9 := Lib.hid (HB2.out.trans (hb3.mono HB2.out.size))
  have r9 := R2.out.below hb3
  have x0 := r9.cell' (i := 0) rfl
  have x1 := r9.cell' (i := 1) rfl
  have x2 := r9.cell' (i := 2) rfl
  have x3 := r9.cell' (i := 3) rfl
  have x4 := r9.cell' (i := 4) rfl
  have xf := fun i => r9.froz i
  have xl := r9.lt
  clear hb3 r9
  go_wp2
  rw [← HP.out]
  refine bodyPost_ret (v := .tuple #[repZ, errV E 2]) (by simp [results, Tryz.results10, go_sem, x0, x1, x2, x3, x4, xl]) rfl ⟨rfl, ?_⟩
  repeat (first | with_reducible exact HB9.out | with_reducible refine Below.setCell ?_ HCC.out _ | with_reducible refine Below.drew ?_)
theorem fsck_look_down (h : DevN w d bl calls fuse true) (h1 : 300 ≤ bl) (h2 : bl ≤ 6000) (hE : Env E B w) : Calls Tryz.prog 10 #[.pointer (some ⟨d, 0, none⟩)] w fun e w' => e = .returned (.tuple #[repZ, errV E 1]) ∧ Below w.heap.size w w' := by
  have H := Lib.hid h
  have HE := Lib.hid hE
  obtain ⟨C, hC⟩ : ∃ C, w.heap.size = C := ⟨_, rfl⟩
  obtain ⟨w1, hw1⟩ : ∃ w1, w1 = w.alloc (.cells repC.toArray 34) := ⟨_, rfl⟩
  have hb1 : Below w.heap.size w w1 := by rw [hw1]; exact bl_alloc (Below.refl _ _) _
  have R1 : Hid (Row w1 C 34 repC) := Lib.hid (by rw [hw1, ← hC]; exact Row.new _ _ _)
  have HB1 := Lib.hid hb1
  have HW1 := Lib.hid hw1
  have HC := Lib.hid hC
  have HCC : Hid (w.heap.size ≤ C) := Lib.hid (Nat.le_of_eq hC)
  generalize hP : (fun (e : Ending) (w' : World) => e = .returned (.tuple #[repZ, errV E 1]) ∧ Below w.heap.size w w') = Post
  have HP := Lib.hid hP
  clear hP h hE hC hw1 hb1
  go_enter Tryz.func10, Tryz.ntmps10
  go_wp2_with fail
  rw [← HW1.out]
  simp only [HC.out]
  refine (dev_clone (H.out.below HB1.out)).mono ?_
  rintro e w2 ⟨⟨d', rfl, h2⟩, hb2⟩
  have H2 := Lib.hid h2
  have HB2 := Lib.hid (HB1.out.trans (hb2.mono HB1.out.size))
  have R2 := Lib.hid (R1.out.below hb2)
  clear h2 hb2
  go_wp2_with fail
  refine (fsck_check_down H2.out h1 h2 (HE.out.below HB2.out)).mono ?_
  rintro e w3 ⟨rfl, hb3⟩
  have HB9 := Lib.hid (HB2.out.trans (hb3.mono HB2.out.size))
  have r9 := R2.out.below hb3
  have x0 := r9.cell' (i := 0) rfl
  have x1 := r9.cell' (i := 1) rfl
  have x2 := r9.cell' (i := 2) rfl
  have x3 := r9.cell' (i := 3) rfl
  have x4 := r9.cell' (i := 4) rfl
  have xf := fun i => r9.froz i
  have xl := r9.lt
  clear hb3 r9
  go_wp2
  rw [← HP.out]
  refine bodyPost_ret (v := .tuple #[repZ, errV E 1]) (by simp [results, Tryz.results10, go_sem, x0, x1, x2, x3, x4, xl]) rfl ⟨rfl, ?_⟩
  repeat (first | with_reducible exact HB9.out | with_reducible refine Below.setCell ?_ HCC.out _ | with_reducible refine Below.drew ?_)
theorem fsck_look_bad (h : DevN w d bl calls fuse dn) (h1 : bl < 300) (hE : Env E B w) : Calls Tryz.prog 10 #[.pointer (some ⟨d, 0, none⟩)] w fun e w' => e = .returned (.tuple #[repZ, errV E 0]) ∧ Below w.heap.size w w' := by
  have H := Lib.hid h
  have HE := Lib.hid hE
  obtain ⟨C, hC⟩ : ∃ C, w.heap.size = C := ⟨_, rfl⟩
  obtain ⟨w1, hw1⟩ : ∃ w1, w1 = w.alloc (.cells repC.toArray 34) := ⟨_, rfl⟩
  have hb1 : Below w.heap.size w w1 := by rw [hw1]; exact bl_alloc (Below.refl _ _) _
  have R1 : Hid (Row w1 C 34 repC) := Lib.hid (by rw [hw1, ← hC]; exact Row.new _ _ _)
  have HB1 := Lib.hid hb1
  have HW1 := Lib.hid hw1
  have HC := Lib.hid hC
  have HCC : Hid (w.heap.size ≤ C) := Lib.hid (Nat.le_of_eq hC)
  generalize hP : (fun (e : Ending) (w' : World) => e = .returned (.tuple #[repZ, errV E 0]) ∧ Below w.heap.size w w') = Post
  have HP := Lib.hid hP
  clear hP h hE hC hw1 hb1
  go_enter Tryz.func10, Tryz.ntmps10
  go_wp2_with fail
  rw [← HW1.out]
  simp only [HC.out]
  refine (dev_clone (H.out.below HB1.out)).mono ?_
  rintro e w2 ⟨⟨d', rfl, h2⟩, hb2⟩
  have H2 := Lib.hid h2
  have HB2 := Lib.hid (HB1.out.trans (hb2.mono HB1.out.size))
  have R2 := Lib.hid (R1.out.below hb2)
  clear h2 hb2
  go_wp2_with fail
  refine (fsck_check_bad H2.out h1 (HE.out.below HB2.out)).mono ?_
  rintro e w3 ⟨rfl, hb3⟩
  have HB9 := Lib.hid (HB2.out.trans (hb3.mono HB2.out.size))
  have r9 := R2.out.below hb3
  have x0 := r9.cell' (i := 0) rfl
  have x1 := r9.cell' (i := 1) rfl
  have x2 := r9.cell' (i := 2) rfl
  have x3 := r9.cell' (i := 3) rfl
  have x4 := r9.cell' (i := 4) rfl
  have xf := fun i => r9.froz i
  have xl := r9.lt
  clear hb3 r9
  go_wp2
  rw [← HP.out]
  refine bodyPost_ret (v := .tuple #[repZ, errV E 0]) (by simp [results, Tryz.results10, go_sem, x0, x1, x2, x3, x4, xl]) rfl ⟨rfl, ?_⟩
  repeat (first | with_reducible exact HB9.out | with_reducible refine Below.setCell ?_ HCC.out _ | with_reducible refine Below.drew ?_)
end Go.Proofs.YtcjebpplmoakkaaGreatDoor
