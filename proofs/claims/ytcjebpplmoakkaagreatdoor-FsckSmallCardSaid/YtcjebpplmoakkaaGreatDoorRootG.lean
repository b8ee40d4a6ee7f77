/- Package root over a device that was never written: found, Load. -/
import Derived.Test.YtcjebpplmoakkaaGreatDoorRootF
namespace Go.Proofs.YtcjebpplmoakkaaGreatDoor
open Go Go.RowKit
set_option maxRecDepth 100000
set_option linter.unusedSimpArgs false
set_option linter.unusedVariables false
attribute [local go_sem] giv
variable {E : Nat → Addr} {B : Nat} {w w' : World} {d bl : Nat} {calls fuse : Int} {dn : Bool}
theorem half_lt (h1 : 300 ≤ bl) : halfOf bl + 1 < bl ∧ halfOf bl ≤ 512 := by unfold halfOf; omega
/-- The blocks that are looked at. -/
def rootL (bl : Nat) : List Nat := [0, 0 + halfOf bl, 1, 1 + halfOf bl]
theorem rootL_lt (h1 : 300 ≤ bl) {j i : Nat} (h : (rootL bl)[j]? = some i) : i < bl := by
  have hm := List.mem_of_getElem? h
  have := half_lt h1
  simp [rootL] at hm
  omega
theorem rdZ_cell {sp : Option Addr} {n cap : Nat} {l : List Nat} (r : RdE w 1 encZ (.slice sp n cap) (l.map fun i : Nat => (i : Int))) {j i : Nat} (hj : l[j]? = some i) :
    ∃ h off, sp = some ⟨h, off, none⟩ ∧ h < w.heap.size ∧ w.cell? ⟨h, off + j, none⟩ = some (.int .i64 i) := by
  obtain ⟨sp', cap', he, _, _, h3⟩ := r
  injection he with e1 e2 e3
  subst e1
  have hlt : j < l.length := by
    rcases Nat.lt_or_ge j l.length with h | h
    · exact h
    · rw [List.getElem?_eq_none h] at hj; cases hj
  obtain ⟨h, off, h4, h5, h6⟩ := h3 (by intro e; rw [List.map_eq_nil_iff] at e; rw [e] at hlt; simp at hlt)
  refine ⟨h, off, h4, h5, ?_⟩
  have := h6 j 0 (by simpa using hlt) (by decide)
  rw [Nat.mul_one, Nat.add_zero, List.getElem?_map, hj] at this
  exact this
/-- What both ways of found go through up to the loop. -/
def FoundAt (w5 : World) (C D bl : Nat) (sp : Option Addr) (cap : Nat) : Prop :=
  Row w5 C 93 [.int .i64 0, .slice none 0 0] ∧ Row w5 (D + 1) 93 [.int .i64 0, .slice none 0 0] ∧ RdE w5 1 encZ (.slice sp 4 cap) ((rootL bl).map fun i : Nat => (i : Int))
theorem FoundAt.below {w5 w6 : World} {C D bl : Nat} {sp : Option Addr} {cap : Nat} (h : FoundAt w5 C D bl sp cap) (hb : Below w5.heap.size w5 w6) : FoundAt w6 C D bl sp cap :=
  ⟨h.1.below hb, h.2.1.below hb, h.2.2.below hb⟩
set_option maxHeartbeats 2000000 in
theorem root_found (h : DevN w d bl calls fuse false) (h1 : 300 ≤ bl) (h2 : bl ≤ 6000) (hE : Env E B w) : Calls Tryz.prog 84 #[.pointer (some ⟨d, 0, none⟩)] w fun e w' => e = .returned (.tuple #[rootZ, .nilIface]) ∧ Below w.heap.size w w' := by
  have H := Lib.hid h
  have HE := Lib.hid hE
  obtain ⟨C, hC⟩ : ∃ C, w.heap.size = C := ⟨_, rfl⟩
  obtain ⟨w1, hw1⟩ : ∃ w1, w1 = w.alloc (.cells #[.int .i64 0, .slice none 0 0] 93) := ⟨_, rfl⟩
  have hb1 : Below w.heap.size w w1 := by rw [hw1]; exact bl_alloc (Below.refl _ _) _
  have R1 : Hid (Row w1 C 93 [.int .i64 0, .slice none 0 0]) := Lib.hid (by rw [hw1, ← hC]; exact Row.new _ _ _)
  have HB1 := Lib.hid hb1
  have HW1 := Lib.hid hw1
  have HC := Lib.hid hC
  have HBL := Lib.hid (And.intro h1 h2)
  generalize hP : (fun (e : Ending) (w' : World) => e = .returned (.tuple #[rootZ, .nilIface]) ∧ Below w.heap.size w w') = Post
  have HP := Lib.hid hP
  clear hP h hE hC hw1 hb1
  go_enter Tryz.func84, Tryz.ntmps84
  go_wp2_with fail
  rw [← HW1.out]
  simp only [HC.out]
  refine (dev_blocks (H.out.below HB1.out)).mono ?_
  rintro e wx ⟨rfl, hw⟩
  subst hw
  go_wp2_with fail
  refine (geo_ok h1 h2 w1).mono ?_
  rintro e w2 ⟨rfl, hb2⟩
  obtain ⟨HF, hHF⟩ : ∃ HF, halfOf bl = HF := ⟨_, rfl⟩
  have HHF := Lib.hid hHF
  rw [hHF]
  obtain ⟨D, hD⟩ : ∃ D, w2.heap.size = D := ⟨_, rfl⟩
  obtain ⟨w4, hw4⟩ : ∃ w4, w4 = (w2.alloc (.cells #[.int .i64 bl, .int .i64 HF] 47)).alloc (.cells #[.int .i64 0, .slice none 0 0] 93) := ⟨_, rfl⟩
  have hb4 : Below w2.heap.size w2 w4 := by rw [hw4]; exact bl_alloc (bl_alloc (Below.refl _ _) _) _
  have hb14 : Below w1.heap.size w1 w4 := hb2.trans (hb4.mono hb2.size)
  have rg : Row w4 D 47 [.int .i64 bl, .int .i64 HF] := by rw [hw4, ← hD]; exact (Row.new _ _ _).alloc _
  have rb : Row w4 (D + 1) 93 [.int .i64 0, .slice none 0 0] := by
    have r := Row.new (w2.alloc (.cells #[.int .i64 bl, .int .i64 HF] 47)) 93 [.int .i64 0, .slice none 0 0]
    rw [hw4, ← hD]
    simpa using r
  have RC4 := Lib.hid (R1.out.below hb14)
  have RB4 := Lib.hid rb
  have RG4 := Lib.hid rg
  have HB4 := Lib.hid (HB1.out.trans (hb14.mono HB1.out.size))
  have HW4 := Lib.hid hw4
  have HD := Lib.hid hD
  clear hb2 hb4 hb14 rg rb hw4 hD hHF R1 HB1 h1 h2
  go_upto_region 5 with fail
  rw [← HW4.out]
  simp only [HD.out]
  have S : ∀ w', Below w4.heap.size w4 w' → w'.cell? ⟨D, 0, none⟩ = some (.int .i64 bl) ∧ w'.cell? ⟨D, 1, none⟩ = some (.int .i64 HF) ∧ D < w'.heap.size := fun w' hb =>
    ⟨(RG4.out.below hb).cell' (i := 0) rfl, (RG4.out.below hb).cell' (i := 1) rfl, (RG4.out.below hb).lt⟩
  apply wp_region_rel _ (by kernel_rfl) (by kernel_rfl) (fun w' => Below w4.heap.size w4 w') (fun w' w'' => Below w'.heap.size w' w'') (fun w' w'' h1 h2 => bl_trans h1 h2) (Below.refl _ _).drew
  repeat (first
    | (apply wpRel_skip (by rfl)
       simp only [Act.put, List.setIfInBounds_toArray, List.set_cons_zero, List.set_cons_succ])
    | (apply wpRel_fix (by rfl)
       · intro w' hC hf R hR
         have hS := S w' hC
         go_simp
         exact hR _ (Below.refl _ _)
       simp only [Act.put, List.setIfInBounds_toArray, List.set_cons_zero, List.set_cons_succ]))
  apply wpRel_rel (fun v w' => ∃ h, v = .slice (some ⟨h, 0, none⟩) 2 2 ∧ Row w' h 3 [.int .i64 (0 : Nat), .int .i64 ((0 + HF : Nat) : Int)]) (by rfl) (fun _ _ _ ⟨h, h1, h2⟩ hb => ⟨h, h1, h2.below hb⟩)
  · intro w' hC hf R hR
    go_simp
    refine (root_places (bl := bl) 0 (by omega) HF (by have := half_lt HBL.out.1; rw [HHF.out] at this; exact this.2) w').mono ?_
    rintro e w'' ⟨⟨h, rfl, hr⟩, hb⟩
    exact ⟨_, rfl, hR _ _ ⟨h, rfl, hr⟩ hb⟩
  intro v23
  simp only [Act.put, List.setIfInBounds_toArray, List.set_cons_zero, List.set_cons_succ]
  repeat (first
    | (apply wpRel_skip (by rfl)
       simp only [Act.put, List.setIfInBounds_toArray, List.set_cons_zero, List.set_cons_succ])
    | (apply wpRel_fix (by rfl)
       · intro w' hC hf R hR
         have hS := S w' hC
         go_simp
         exact hR _ (Below.refl _ _)
       simp only [Act.put, List.setIfInBounds_toArray, List.set_cons_zero, List.set_cons_succ]))
  apply wpRel_rel (fun v w' => ∃ h, v = .slice (some ⟨h, 0, none⟩) 2 2 ∧ Row w' h 3 [.int .i64 (1 : Nat), .int .i64 ((1 + HF : Nat) : Int)]) (by rfl) (fun _ _ _ ⟨h, h1, h2⟩ hb => ⟨h, h1, h2.below hb⟩)
  · intro w' hC hf R hR
    go_simp
    refine (root_places (bl := bl) 1 (by omega) HF (by have := half_lt HBL.out.1; rw [HHF.out] at this; exact this.2) w').mono ?_
    rintro e w'' ⟨⟨h, rfl, hr⟩, hb⟩
    exact ⟨_, rfl, hR _ _ ⟨h, rfl, hr⟩ hb⟩
  intro v25
  simp only [Act.put, List.setIfInBounds_toArray, List.set_cons_zero, List.set_cons_succ]
  apply wpRel_rel (fun v w' => ∃ h h1 h2, v = .slice (some ⟨h, 0, none⟩) 2 2 ∧ Row w' h 32 [.slice (some ⟨h1, 0, none⟩) 2 2, .slice (some ⟨h2, 0, none⟩) 2 2] ∧ Row w' h1 3 [.int .i64 (0 : Nat), .int .i64 ((0 + HF : Nat) : Int)] ∧ Row w' h2 3 [.int .i64 (1 : Nat), .int .i64 ((1 + HF : Nat) : Int)]) (by rfl) (fun _ _ _ ⟨h, h1, h2, q0, q1, q2, q3⟩ hb => ⟨h, h1, h2, q0, q1.below hb, q2.below hb, q3.below hb⟩)
  · intro w' hC hf R hR
    obtain ⟨ha, rfl, hra⟩ := hf _ (List.mem_cons_of_mem _ (List.mem_cons_self ..)) (by kernel_rfl)
    obtain ⟨hb, rfl, hrb⟩ := hf _ (List.mem_cons_self ..) (by kernel_rfl)
    go_simp
    exact hR _ _ ⟨_, ha, hb, rfl, Row.new _ _ _, hra.alloc _, hrb.alloc _⟩ (bl_alloc (Below.refl _ _) _)
  intro v26
  simp only [Act.put, List.setIfInBounds_toArray, List.set_cons_zero, List.set_cons_succ]
  apply wpRel_rel (fun v w' => ∃ sp cap, v = .slice sp 4 cap ∧ RdE w' 1 encZ (.slice sp 4 cap) ((rootL bl).map fun i : Nat => (i : Int))) (by rfl) (fun _ _ _ ⟨sp, cap, q0, q1⟩ hb => ⟨sp, cap, q0, q1.below hb⟩)
  · intro w' hC hf R hR
    obtain ⟨ha, h1, h2, rfl, hr, hr1, hr2⟩ := hf _ (List.mem_cons_self ..) (by kernel_rfl)
    go_simp
    refine (concatI_any hr (rdZ (l := [((0 : Nat) : Int), ((0 + HF : Nat) : Int)]) hr1) (rdZ (l := [((1 : Nat) : Int), ((1 + HF : Nat) : Int)]) hr2) (by simp)).mono ?_
    rintro e w'' ⟨⟨z, rfl, hz⟩, hb⟩
    have hrd := hz.rd (fun _ => rfl)
    obtain ⟨sp, cap, rfl, _⟩ := hrd.shape
    refine ⟨_, rfl, hR _ _ ⟨sp, cap, rfl, ?_⟩ hb⟩
    have e : ((rootL bl).map fun i : Nat => (i : Int)) = [((0 : Nat) : Int), ((0 + HF : Nat) : Int)] ++ [((1 : Nat) : Int), ((1 + HF : Nat) : Int)] := by rw [← HHF.out]; rfl
    rw [e]
    exact hrd
  intro v27
  simp only [Act.put, List.setIfInBounds_toArray, List.set_cons_zero, List.set_cons_succ]
  apply wpRel_fix (by rfl)
  · intro w' hC hf R hR
    obtain ⟨sp, cap, rfl, hr⟩ := hf _ (List.mem_cons_self ..) (by kernel_rfl)
    go_simp
    exact hR _ (Below.refl _ _)
  simp only [Act.put, List.setIfInBounds_toArray, List.set_cons_zero, List.set_cons_succ]
  repeat (first
    | (apply wpRel_skip (by rfl)
       simp only [Act.put, List.setIfInBounds_toArray, List.set_cons_zero, List.set_cons_succ])
    | (apply wpRel_fix (by rfl)
       · intro w' hC hf R hR
         have hS := S w' hC
         go_simp
         exact hR _ (Below.refl _ _)
       simp only [Act.put, List.setIfInBounds_toArray, List.set_cons_zero, List.set_cons_succ]))
  refine wpRel_nil (fun w5 hC hf => ?_)
  obtain ⟨sp, cap, rfl, hrd⟩ := hf _ (List.mem_cons_self ..)
  have HFA : Hid (FoundAt w5 C D bl sp cap) := Lib.hid ⟨RC4.out.below hC, RB4.out.below hC, hrd⟩
  have HB5 := Lib.hid (HB4.out.trans (hC.mono HB4.out.size))
  clear hC hf S hrd
  go_wp2_with fail
  go_loopw [8, 9, 10, 11, 29] (fun _ _ _ _ v29 wr => ∃ j : Nat, v29 = .int .i64 j ∧ j ≤ 4 ∧ Hid (Below w5.heap.size w5 wr)) (fun _ _ _ _ v29 _ => 4 - (intOf v29).toNat)
  case atStart => exact ⟨0, rfl, by omega, Lib.hid (Below.refl _ _)⟩
  case round =>
    obtain ⟨j, rfl, hj, HI⟩ := hrel
    by_cases hlt : j < 4
    case pos =>
      have hlt2 : (j : Int) < 4 := by omega
      have hj0 : (0 : Int) ≤ (j : Int) := by omega
      obtain ⟨i, hi⟩ : ∃ i, (rootL bl)[j]? = some i := ⟨_, List.getElem?_eq_getElem (by simpa [rootL] using hlt)⟩
      have HIL := Lib.hid (rootL_lt HBL.out.1 hi)
      obtain ⟨h, off, rfl, hh, hc⟩ := rdZ_cell HFA.out.2.2 hi
      have hc2 : wr.cell? ⟨h, off + j, none⟩ = some (.int .i64 i) := (HI.out.cell (p := ⟨h, off + j, none⟩) hh).trans hc
      have hhr : h < wr.heap.size := Nat.lt_of_lt_of_le hh HI.out.size
      have HLT := Lib.hid hlt
      have b0 := ((HFA.out.below HI.out).2.1).cell' (i := 0) rfl
      clear hlt hi hc hh hj
      go_wp2_with fail
      refine (root_one (H.out.below (HB5.out.trans (HI.out.mono HB5.out.size))) HIL.out HBL.out.2 (HE.out.below (HB5.out.trans (HI.out.mono HB5.out.size)))).mono ?_
      rintro e w6 ⟨rfl, hb6⟩
      have HI6 := Lib.hid (HI.out.trans (hb6.mono HI.out.size))
      clear hb6 hc2 hhr b0
      go_wp2
      go_roundw
      case rel => exact ⟨j + 1, by go_num, HLT.out, Lib.hid (bl_alloc HI6.out _)⟩
      case measure =>
        have h3 := HLT.out
        simp [intOf]
        omega
    case neg =>
      obtain rfl : j = 4 := by omega
      have hfa := HFA.out.below HI.out
      have b0 := hfa.2.1.cell' (i := 0) rfl
      have b1 := hfa.2.1.cell' (i := 1) rfl
      have bl2 := hfa.2.1.lt
      have x0 := hfa.1.cell' (i := 0) rfl
      have x1 := hfa.1.cell' (i := 1) rfl
      have xf := fun i => hfa.1.froz i
      have xl := hfa.1.lt
      have HB6 := Lib.hid (HB5.out.trans (HI.out.mono HB5.out.size))
      have HCC : Hid (w.heap.size ≤ C) := Lib.hid (by have := HC.out; omega)
      clear hfa hlt hj
      go_wp2
      rw [← HP.out]
      refine bodyPost_ret (v := .tuple #[rootZ, .nilIface]) (by simp [results, Tryz.results84, go_sem, x0, x1, xl]) rfl ⟨rfl, ?_⟩
      repeat (first | with_reducible exact HB6.out | with_reducible refine Below.setCell ?_ HCC.out _ | with_reducible refine Below.drew ?_)
set_option maxHeartbeats 2000000 in
theorem root_found_down (h : DevN w d bl calls fuse true) (h1 : 300 ≤ bl) (h2 : bl ≤ 6000) (hE : Env E B w) : Calls Tryz.prog 84 #[.pointer (some ⟨d, 0, none⟩)] w fun e w' => e = .returned (.tuple #[rootZ, errV E 1]) ∧ Below w.heap.size w w' := by
  have H := Lib.hid h
  have HE := Lib.hid hE
  obtain ⟨C, hC⟩ : ∃ C, w.heap.size = C := ⟨_, rfl⟩
  obtain ⟨w1, hw1⟩ : ∃ w1, w1 = w.alloc (.cells #[.int .i64 0, .slice none 0 0] 93) := ⟨_, rfl⟩
  have hb1 : Below w.heap.size w w1 := by rw [hw1]; exact bl_alloc (Below.refl _ _) _
  have R1 : Hid (Row w1 C 93 [.int .i64 0, .slice none 0 0]) := Lib.hid (by rw [hw1, ← hC]; exact Row.new _ _ _)
  have HB1 := Lib.hid hb1
  have HW1 := Lib.hid hw1
  have HC := Lib.hid hC
  have HBL := Lib.hid (And.intro h1 h2)
  generalize hP : (fun (e : Ending) (w' : World) => e = .returned (.tuple #[rootZ, errV E 1]) ∧ Below w.heap.size w w') = Post
  have HP := Lib.hid hP
  clear hP h hE hC hw1 hb1
  go_enter Tryz.func84, Tryz.ntmps84
  go_wp2_with fail
  rw [← HW1.out]
  simp only [HC.out]
  refine (dev_blocks (H.out.below HB1.out)).mono ?_
  rintro e wx ⟨rfl, hw⟩
  subst hw
  go_wp2_with fail
  refine (geo_ok h1 h2 w1).mono ?_
  rintro e w2 ⟨rfl, hb2⟩
  obtain ⟨HF, hHF⟩ : ∃ HF, halfOf bl = HF := ⟨_, rfl⟩
  have HHF := Lib.hid hHF
  rw [hHF]
  obtain ⟨D, hD⟩ : ∃ D, w2.heap.size = D := ⟨_, rfl⟩
  obtain ⟨w4, hw4⟩ : ∃ w4, w4 = (w2.alloc (.cells #[.int .i64 bl, .int .i64 HF] 47)).alloc (.cells #[.int .i64 0, .slice none 0 0] 93) := ⟨_, rfl⟩
  have hb4 : Below w2.heap.size w2 w4 := by rw [hw4]; exact bl_alloc (bl_alloc (Below.refl _ _) _) _
  have hb14 : Below w1.heap.size w1 w4 := hb2.trans (hb4.mono hb2.size)
  have rg : Row w4 D 47 [.int .i64 bl, .int .i64 HF] := by rw [hw4, ← hD]; exact (Row.new _ _ _).alloc _
  have rb : Row w4 (D + 1) 93 [.int .i64 0, .slice none 0 0] := by
    have r := Row.new (w2.alloc (.cells #[.int .i64 bl, .int .i64 HF] 47)) 93 [.int .i64 0, .slice none 0 0]
    rw [hw4, ← hD]
    simpa using r
  have RC4 := Lib.hid (R1.out.below hb14)
  have RB4 := Lib.hid rb
  have RG4 := Lib.hid rg
  have HB4 := Lib.hid (HB1.out.trans (hb14.mono HB1.out.size))
  have HW4 := Lib.hid hw4
  have HD := Lib.hid hD
  clear hb2 hb4 hb14 rg rb hw4 hD hHF R1 HB1 h1 h2
  go_upto_region 5 with fail
  rw [← HW4.out]
  simp only [HD.out]
  have S : ∀ w', Below w4.heap.size w4 w' → w'.cell? ⟨D, 0, none⟩ = some (.int .i64 bl) ∧ w'.cell? ⟨D, 1, none⟩ = some (.int .i64 HF) ∧ D < w'.heap.size := fun w' hb =>
    ⟨(RG4.out.below hb).cell' (i := 0) rfl, (RG4.out.below hb).cell' (i := 1) rfl, (RG4.out.below hb).lt⟩
  apply wp_region_rel _ (by kernel_rfl) (by kernel_rfl) (fun w' => Below w4.heap.size w4 w') (fun w' w'' => Below w'.heap.size w' w'') (fun w' w'' h1 h2 => bl_trans h1 h2) (Below.refl _ _).drew
  repeat (first
    | (apply wpRel_skip (by rfl)
       simp only [Act.put, List.setIfInBounds_toArray, List.set_cons_zero, List.set_cons_succ])
    | (apply wpRel_fix (by rfl)
       · intro w' hC hf R hR
         have hS := S w' hC
         go_simp
         exact hR _ (Below.refl _ _)
       simp only [Act.put, List.setIfInBounds_toArray, List.set_cons_zero, List.set_cons_succ]))
  apply wpRel_rel (fun v w' => ∃ h, v = .slice (some ⟨h, 0, none⟩) 2 2 ∧ Row w' h 3 [.int .i64 (0 : Nat), .int .i64 ((0 + HF : Nat) : Int)]) (by rfl) (fun _ _ _ ⟨h, h1, h2⟩ hb => ⟨h, h1, h2.below hb⟩)
  · intro w' hC hf R hR
    go_simp
    refine (root_places (bl := bl) 0 (by omega) HF (by have := half_lt HBL.out.1; rw [HHF.out] at this; exact this.2) w').mono ?_
    rintro e w'' ⟨⟨h, rfl, hr⟩, hb⟩
    exact ⟨_, rfl, hR _ _ ⟨h, rfl, hr⟩ hb⟩
  intro v23
  simp only [Act.put, List.setIfInBounds_toArray, List.set_cons_zero, List.set_cons_succ]
  repeat (first
    | (apply wpRel_skip (by rfl)
       simp only [Act.put, List.setIfInBounds_toArray, List.set_cons_zero, List.set_cons_succ])
    | (apply wpRel_fix (by rfl)
       · intro w' hC hf R hR
         have hS := S w' hC
         go_simp
         exact hR _ (Below.refl _ _)
       simp only [Act.put, List.setIfInBounds_toArray, List.set_cons_zero, List.set_cons_succ]))
  apply wpRel_rel (fun v w' => ∃ h, v = .slice (some ⟨h, 0, none⟩) 2 2 ∧ Row w' h 3 [.int .i64 (1 : Nat), .int .i64 ((1 + HF : Nat) : Int)]) (by rfl) (fun _ _ _ ⟨h, h1, h2⟩ hb => ⟨h, h1, h2.below hb⟩)
  · intro w' hC hf R hR
    go_simp
    refine (root_places (bl := bl) 1 (by omega) HF (by have := half_lt HBL.out.1; rw [HHF.out] at this; exact this.2) w').mono ?_
    rintro e w'' ⟨⟨h, rfl, hr⟩, hb⟩
    exact ⟨_, rfl, hR _ _ ⟨h, rfl, hr⟩ hb⟩
  intro v25
  simp only [Act.put, List.setIfInBounds_toArray, List.set_cons_zero, List.set_cons_succ]
  apply wpRel_rel (fun v w' => ∃ h h1 h2, v = .slice (some ⟨h, 0, none⟩) 2 2 ∧ Row w' h 32 [.slice (some ⟨h1, 0, none⟩) 2 2, .slice (some ⟨h2, 0, none⟩) 2 2] ∧ Row w' h1 3 [.int .i64 (0 : Nat), .int .i64 ((0 + HF : Nat) : Int)] ∧ Row w' h2 3 [.int .i64 (1 : Nat), .int .i64 ((1 + HF : Nat) : Int)]) (by rfl) (fun _ _ _ ⟨h, h1, h2, q0, q1, q2, q3⟩ hb => ⟨h, h1, h2, q0, q1.below hb, q2.below hb, q3.below hb⟩)
  · intro w' hC hf R hR
    obtain ⟨ha, rfl, hra⟩ := hf _ (List.mem_cons_of_mem _ (List.mem_cons_self ..)) (by kernel_rfl)
    obtain ⟨hb, rfl, hrb⟩ := hf _ (List.mem_cons_self ..) (by kernel_rfl)
    go_simp
    exact hR _ _ ⟨_, ha, hb, rfl, Row.new _ _ _, hra.alloc _, hrb.alloc _⟩ (bl_alloc (Below.refl _ _) _)
  intro v26
  simp only [Act.put, List.setIfInBounds_toArray, List.set_cons_zero, List.set_cons_succ]
  apply wpRel_rel (fun v w' => ∃ sp cap, v = .slice sp 4 cap ∧ RdE w' 1 encZ (.slice sp 4 cap) ((rootL bl).map fun i : Nat => (i : Int))) (by rfl) (fun _ _ _ ⟨sp, cap, q0, q1⟩ hb => ⟨sp, cap, q0, q1.below hb⟩)
  · intro w' hC hf R hR
    obtain ⟨ha, h1, h2, rfl, hr, hr1, hr2⟩ := hf _ (List.mem_cons_self ..) (by kernel_rfl)
    go_simp
    refine (concatI_any hr (rdZ (l := [((0 : Nat) : Int), ((0 + HF : Nat) : Int)]) hr1) (rdZ (l := [((1 : Nat) : Int), ((1 + HF : Nat) : Int)]) hr2) (by simp)).mono ?_
    rintro e w'' ⟨⟨z, rfl, hz⟩, hb⟩
    have hrd := hz.rd (fun _ => rfl)
    obtain ⟨sp, cap, rfl, _⟩ := hrd.shape
    refine ⟨_, rfl, hR _ _ ⟨sp, cap, rfl, ?_⟩ hb⟩
    have e : ((rootL bl).map fun i : Nat => (i : Int)) = [((0 : Nat) : Int), ((0 + HF : Nat) : Int)] ++ [((1 : Nat) : Int), ((1 + HF : Nat) : Int)] := by rw [← HHF.out]; rfl
    rw [e]
    exact hrd
  intro v27
  simp only [Act.put, List.setIfInBounds_toArray, List.set_cons_zero, List.set_cons_succ]
  apply wpRel_fix (by rfl)
  · intro w' hC hf R hR
    obtain ⟨sp, cap, rfl, hr⟩ := hf _ (List.mem_cons_self ..) (by kernel_rfl)
    go_simp
    exact hR _ (Below.refl _ _)
  simp only [Act.put, List.setIfInBounds_toArray, List.set_cons_zero, List.set_cons_succ]
  repeat (first
    | (apply wpRel_skip (by rfl)
       simp only [Act.put, List.setIfInBounds_toArray, List.set_cons_zero, List.set_cons_succ])
    | (apply wpRel_fix (by rfl)
       · intro w' hC hf R hR
         have hS := S w' hC
         go_simp
         exact hR _ (Below.refl _ _)
       simp only [Act.put, List.setIfInBounds_toArray, List.set_cons_zero, List.set_cons_succ]))
  refine wpRel_nil (fun w5 hC hf => ?_)
  obtain ⟨sp, cap, rfl, hrd⟩ := hf _ (List.mem_cons_self ..)
  have HFA : Hid (FoundAt w5 C D bl sp cap) := Lib.hid ⟨RC4.out.below hC, RB4.out.below hC, hrd⟩
  have HB5 := Lib.hid (HB4.out.trans (hC.mono HB4.out.size))
  clear hC hf S hrd
  go_wp2_with fail
  go_loopw [8, 9, 10, 11, 29] (fun _ _ _ _ v29 wr => ∃ j : Nat, v29 = .int .i64 j ∧ j < 4 ∧ Hid (Below w5.heap.size w5 wr)) (fun _ _ _ _ v29 _ => 4 - (intOf v29).toNat)
  case atStart => exact ⟨0, rfl, by omega, Lib.hid (Below.refl _ _)⟩
  case round =>
    obtain ⟨j, rfl, hj0, HI⟩ := hrel
    by_cases hlt : j < 4
    case pos =>
      have hlt2 : (j : Int) < 4 := by omega
      have hj1 : (0 : Int) ≤ (j : Int) := by omega
      obtain ⟨i, hi⟩ : ∃ i, (rootL bl)[j]? = some i := ⟨_, List.getElem?_eq_getElem (by simpa [rootL] using hlt)⟩
      have HIL := Lib.hid (rootL_lt HBL.out.1 hi)
      obtain ⟨h, off, rfl, hh, hc⟩ := rdZ_cell HFA.out.2.2 hi
      have hc2 : wr.cell? ⟨h, off + j, none⟩ = some (.int .i64 i) := (HI.out.cell (p := ⟨h, off + j, none⟩) hh).trans hc
      have hhr : h < wr.heap.size := Nat.lt_of_lt_of_le hh HI.out.size
      have HLT := Lib.hid hlt
      have b0 := ((HFA.out.below HI.out).2.1).cell' (i := 0) rfl
      clear hlt hi hc hh hj0
      go_wp2_with fail
      refine (root_one_down (H.out.below (HB5.out.trans (HI.out.mono HB5.out.size))) i (HE.out.below (HB5.out.trans (HI.out.mono HB5.out.size)))).mono ?_
      rintro e w6 ⟨rfl, hb6⟩
      have hfa := (HFA.out.below HI.out).below hb6
      have x0 := hfa.1.cell' (i := 0) rfl
      have x1 := hfa.1.cell' (i := 1) rfl
      have xf := fun i => hfa.1.froz i
      have xl := hfa.1.lt
      have xl2 : C < w6.heap.size + 1 := by have := hfa.1.lt; omega
      have HB6 := Lib.hid ((HB5.out.trans (HI.out.mono HB5.out.size)).trans (hb6.mono (Nat.le_trans HB5.out.size HI.out.size)))
      obtain ⟨w7, hw7⟩ : ∃ w7, w7 = w6.alloc (.cells #[.int .i64 0, .slice none 0 0] 93) := ⟨_, rfl⟩
      have hb7 : Below w6.heap.size w6 w7 := by rw [hw7]; exact bl_alloc (Below.refl _ _) _
      have hfb := hfa.below hb7
      have z0 := hfb.1.cell' (i := 0) rfl
      have z1 := hfb.1.cell' (i := 1) rfl
      have zf := fun i => hfb.1.froz i
      have zl := hfb.1.lt
      have HB7 := Lib.hid (HB6.out.trans (hb7.mono HB6.out.size))
      have HW7 := Lib.hid hw7
      have HCC : Hid (w.heap.size ≤ C) := Lib.hid (by have := HC.out; omega)
      clear hb6 hc2 hhr b0 hfa hfb hb7 hw7 x0 x1 xf xl xl2
      go_upto_region 9 with fail
      rw [← HW7.out]
      go_wp2
      rw [← HP.out]
      refine bodyPost_ret (v := .tuple #[rootZ, errV E 1]) (by simp [results, Tryz.results84, go_sem, z0, z1, zl]) rfl ⟨rfl, ?_⟩
      repeat (first | with_reducible exact HB7.out | with_reducible refine Below.setCell ?_ HCC.out _ | with_reducible refine Below.drew ?_)
    case neg =>
      exact absurd hj0 hlt
end Go.Proofs.YtcjebpplmoakkaaGreatDoor
