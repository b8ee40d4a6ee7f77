/- A device that was never written: root.Load, page.Open, fsck.Check and Look; a copy of the device. -/
import Derived.Test.YtcjebpplmoakkaaGreatDoorRootG
namespace Go.Proofs.YtcjebpplmoakkaaGreatDoor
open Go Go.RowKit
set_option maxRecDepth 100000
set_option linter.unusedSimpArgs false
set_option linter.unusedVariables false
attribute [local go_sem] giv
variable {E : Nat → Addr} {B : Nat} {w w' : World} {d bl : Nat} {calls fuse : Int} {dn : Bool}
theorem root_load (h : DevN w d bl calls fuse false) (h1 : 300 ≤ bl) (h2 : bl ≤ 6000) (hE : Env E B w) : Calls Tryz.prog 36 #[.pointer (some ⟨d, 0, none⟩)] w fun e w' => e = .returned (.tuple #[rootZ, .bool false, .nilIface]) ∧ Below w.heap.size w w' := by
  have H := Lib.hid h
  have HE := Lib.hid hE
  obtain ⟨C, hC⟩ : ∃ C, w.heap.size = C := ⟨_, rfl⟩
  obtain ⟨w1, hw1⟩ : ∃ w1, w1 = w.alloc (.cells #[.int .i64 0, .slice none 0 0] 93) := ⟨_, rfl⟩
  have hb1 : Below w.heap.size w w1 := by rw [hw1]; exact bl_alloc (Below.refl _ _) _
  have R1 : Hid (Row w1 C 93 [.int .i64 0, .slice none 0 0]) := Lib.hid (by rw [hw1, ← hC]; exact Row.new _ _ _)
  have HB1 := Lib.hid hb1
  have HW1 := Lib.hid hw1
  have HC := Lib.hid hC
  generalize hP : (fun (e : Ending) (w' : World) => e = .returned (.tuple #[rootZ, .bool false, .nilIface]) ∧ Below w.heap.size w w') = Post
  have HP := Lib.hid hP
  clear hP h hE hC hw1 hb1
  go_enter Tryz.func36, Tryz.ntmps36
  go_wp2_with fail
  rw [← HW1.out]
  simp only [HC.out]
  refine (root_found (H.out.below HB1.out) h1 h2 (HE.out.below HB1.out)).mono ?_
  rintro e w2 ⟨rfl, hb2⟩
  obtain ⟨D, hD⟩ : ∃ D, w2.heap.size = D := ⟨_, rfl⟩
  obtain ⟨w3, hw3⟩ : ∃ w3, w3 = w2.alloc (.cells #[.int .i64 0, .slice none 0 0] 93) := ⟨_, rfl⟩
  have hb3 : Below w2.heap.size w2 w3 := by rw [hw3]; exact bl_alloc (Below.refl _ _) _
  have r3 := (R1.out.below hb2).below hb3
  have rd : Row w3 D 93 [.int .i64 0, .slice none 0 0] := by rw [hw3, ← hD]; exact Row.new _ _ _
  have hne : ¬ D = C := by have := R1.out.lt; have := hb2.size; omega
  have hne2 : ¬ C = D := fun e => hne e.symm
  have x0 := r3.cell' (i := 0) rfl
  have x1 := r3.cell' (i := 1) rfl
  have xf := fun i => r3.froz i
  have xl := r3.lt
  have y0 := rd.cell' (i := 0) rfl
  have y1 := rd.cell' (i := 1) rfl
  have yl := rd.lt
  have HB3 := Lib.hid ((HB1.out.trans (hb2.mono HB1.out.size)).trans (hb3.mono (Nat.le_trans HB1.out.size hb2.size)))
  have HW3 := Lib.hid hw3
  have HD := Lib.hid hD
  have HCC : Hid (w.heap.size ≤ C) := Lib.hid (by have := HC.out; omega)
  clear hb2 hb3 hw3 hD r3 rd R1 h1 h2
  go_upto_region 2 with fail
  rw [← HW3.out]
  simp only [HD.out]
  go_region
  go_wp2
  rw [← HP.out]
  refine bodyPost_ret (v := .tuple #[rootZ, .bool false, .nilIface]) (by simp [results, Tryz.results36, go_sem, x0, x1, xl]) rfl ⟨rfl, ?_⟩
  repeat (first | with_reducible exact HB3.out | with_reducible refine Below.setCell ?_ HCC.out _ | with_reducible refine Below.drew ?_)
theorem root_load_down (h : DevN w d bl calls fuse true) (h1 : 300 ≤ bl) (h2 : bl ≤ 6000) (hE : Env E B w) : Calls Tryz.prog 36 #[.pointer (some ⟨d, 0, none⟩)] w fun e w' => e = .returned (.tuple #[rootZ, .bool false, errV E 1]) ∧ Below w.heap.size w w' := by
  have H := Lib.hid h
  have HE := Lib.hid hE
  obtain ⟨C, hC⟩ : ∃ C, w.heap.size = C := ⟨_, rfl⟩
  obtain ⟨w1, hw1⟩ : ∃ w1, w1 = w.alloc (.cells #[.int .i64 0, .slice none 0 0] 93) := ⟨_, rfl⟩
  have hb1 : Below w.heap.size w w1 := by rw [hw1]; exact bl_alloc (Below.refl _ _) _
  have R1 : Hid (Row w1 C 93 [.int .i64 0, .slice none 0 0]) := Lib.hid (by rw [hw1, ← hC]; exact Row.new _ _ _)
  have HB1 := Lib.hid hb1
  have HW1 := Lib.hid hw1
  have HC := Lib.hid hC
  generalize hP : (fun (e : Ending) (w' : World) => e = .returned (.tuple #[rootZ, .bool false, errV E 1]) ∧ Below w.heap.size w w') = Post
  have HP := Lib.hid hP
  clear hP h hE hC hw1 hb1
  go_enter Tryz.func36, Tryz.ntmps36
  go_wp2_with fail
  rw [← HW1.out]
  simp only [HC.out]
  refine (root_found_down (H.out.below HB1.out) h1 h2 (HE.out.below HB1.out)).mono ?_
  rintro e w2 ⟨rfl, hb2⟩
  obtain ⟨D, hD⟩ : ∃ D, w2.heap.size = D := ⟨_, rfl⟩
  obtain ⟨w3, hw3⟩ : ∃ w3, w3 = w2.alloc (.cells #[.int .i64 0, .slice none 0 0] 93) := ⟨_, rfl⟩
  have hb3 : Below w2.heap.size w2 w3 := by rw [hw3]; exact bl_alloc (Below.refl _ _) _
  have r3 := (R1.out.below hb2).below hb3
  have rd : Row w3 D 93 [.int .i64 0, .slice none 0 0] := by rw [hw3, ← hD]; exact Row.new _ _ _
  have hne : ¬ D = C := by have := R1.out.lt; have := hb2.size; omega
  have hne2 : ¬ C = D := fun e => hne e.symm
  have x0 := r3.cell' (i := 0) rfl
  have x1 := r3.cell' (i := 1) rfl
  have xf := fun i => r3.froz i
  have xl := r3.lt
  have y0 := rd.cell' (i := 0) rfl
  have y1 := rd.cell' (i := 1) rfl
  have yl := rd.lt
  have HB3 := Lib.hid ((HB1.out.trans (hb2.mono HB1.out.size)).trans (hb3.mono (Nat.le_trans HB1.out.size hb2.size)))
  have HW3 := Lib.hid hw3
  have HD := Lib.hid hD
  have HCC : Hid (w.heap.size ≤ C) := Lib.hid (by have := HC.out; omega)
  clear hb2 hb3 hw3 hD r3 rd R1 h1 h2
  go_upto_region 2 with fail
  rw [← HW3.out]
  simp only [HD.out]
  go_region
  go_wp2
  rw [← HP.out]
  refine bodyPost_ret (v := .tuple #[rootZ, .bool false, errV E 1]) (by simp [results, Tryz.results36, go_sem, x0, x1, xl]) rfl ⟨rfl, ?_⟩
  repeat (first | with_reducible exact HB3.out | with_reducible refine Below.setCell ?_ HCC.out _ | with_reducible refine Below.drew ?_)
theorem page_or (s : Nat) (w : World) : Calls Tryz.prog 37 #[.pointer (some ⟨s, 0, none⟩), .nilIface] w fun e w' => e = .returned (.tuple #[.pointer (some ⟨s, 0, none⟩), .nilIface]) ∧ w = w' := by
  go_enter Tryz.func37, Tryz.ntmps37
  go_wp2
  go_ret2
  exact ⟨rfl, rfl⟩
theorem page_or_down (s : Nat) (w : World) (a : Nat) : Calls Tryz.prog 37 #[.pointer (some ⟨s, 0, none⟩), errV E a] w fun e w' => e = .returned (.tuple #[.pointer none, errV E a]) ∧ w = w' := by
  go_enter Tryz.func37, Tryz.ntmps37
  go_wp2
  go_ret2
  exact ⟨rfl, rfl⟩
theorem page_epoch {s : Nat} (hc : w.cell? ⟨s, 2, none⟩ = some (.int .i64 0)) (hl : s < w.heap.size) : Calls Tryz.prog 19 #[.pointer (some ⟨s, 0, none⟩)] w fun e w' => e = .returned (.int .i64 0) ∧ w = w' := by
  go_enter Tryz.func19, Tryz.ntmps19
  go_wp2
  go_ret
  exact ⟨rfl, rfl⟩
/-- 'make([]T, n)' at elements of some cells: what it leaves below. -/
theorem wpList_mkN {P : Program} (w : World) {ops : Array Oper} {rest : List Oper} {o : Oper} {a : Act} {Q : Exit → Act → World → Prop}
    (hg : o.guard = none) (l c : Operand) (t : TypeId) (hop : o.op = Op.makeSlice t l c) (e : TypeId) (z : Value) (size bytes : Nat) (h1 : P.underlying t = some (.slice e))
    (hi : (P.info? e).map (fun i => (i.zero, i.size, i.bytes)) = some (some z, size, bytes)) (n : Nat) (hl : a.eval l = .int .i64 n) (hc : a.eval c = .int .i64 n) (b2 : bytes * n ≤ 281474976710656) (b3 : n ≤ maxLen)
    (hK : ∀ w', Below w.heap.size w w' → wpList P ops Q rest (a.put o.dst (.slice (some ⟨w.heap.size, 0, none⟩) n n)) w') :
    wpList P ops Q (o :: rest) a w := by
  obtain ⟨i, hi0, hi1, hi2, hi3⟩ := info_parts hi
  refine wpList_make_full w hg l c t hop w.heap.size e i z size h1 hi0 hi1 hi2 .i64 .i64 n n n hl hc rfl rfl (by rw [hi3]; exact b2) b3 (Nat.le_refl _) fun w' r1 r2 => ?_
  exact hK w' ((Below.refl _ _).grown r2 (Nat.le_refl _) (fun _ h => by cases h))
theorem refInfo : (Tryz.prog.info? 101).map (fun i => (i.zero, i.size, i.bytes)) = some (some (.agg #[.int .i64 0, .int .u32 0]), 2, 16) := by kernel_rfl
theorem page_open (h : DevN w d bl calls fuse false) (h1 : 300 ≤ bl) (h2 : bl ≤ 6000) (hE : Env E B w) : Calls Tryz.prog 17 #[.pointer (some ⟨d, 0, none⟩)] w fun e w' => (∃ s, e = .returned (.tuple #[.pointer (some ⟨s, 0, none⟩), .nilIface]) ∧ w'.cell? ⟨s, 2, none⟩ = some (.int .i64 0) ∧ s < w'.heap.size) ∧ Below w.heap.size w w' := by
  have H := Lib.hid h
  have HE := Lib.hid hE
  have hmm := @run_makeMap Tryz.prog
  generalize hP : (fun (e : Ending) (w' : World) => (∃ s, e = .returned (.tuple #[.pointer (some ⟨s, 0, none⟩), .nilIface]) ∧ w'.cell? ⟨s, 2, none⟩ = some (.int .i64 0) ∧ s < w'.heap.size) ∧ Below w.heap.size w w') = Post
  have HP := Lib.hid hP
  clear hP
  go_enter Tryz.func17, Tryz.ntmps17
  go_wp2_with fail
  refine (pair_open h h1 h2).mono ?_
  rintro e w2 ⟨⟨p, rfl⟩, hb2⟩
  have HB2 := Lib.hid hb2
  clear hb2
  go_wp2_with (at_make; refine wpList_mkN _ rfl _ _ _ rfl 101 (.agg #[.int .i64 0, .int .u32 0]) 2 16 Tryz.underlying90 refInfo 7 rfl rfl (by omega) (by unfold maxLen; omega) ?_; intro w3 hb3; have HB3 := Lib.hid (HB2.out.trans (hb3.mono HB2.out.size)); clear hb3)
  obtain ⟨SB, hSB⟩ : ∃ SB, w3.heap.size + 1 + 1 = SB := ⟨_, rfl⟩
  obtain ⟨T2, hT2⟩ : ∃ T2, w2.heap.size = T2 := ⟨_, rfl⟩
  obtain ⟨w6, hw6⟩ : ∃ w6, w6 = ((w3.alloc (.map #[] 0)).alloc (.map #[] 0)).alloc (.cells #[.pointer (some ⟨d, 0, none⟩), .pointer (some p), .int .i64 0, .slice none 0 0, .slice (some ⟨T2, 0, none⟩) 7 7, .map (some w3.heap.size), .map (some (w3.heap.size + 1)), .int .i64 0] 95) := ⟨_, rfl⟩
  have hb6 : Below w3.heap.size w3 w6 := by rw [hw6]; exact bl_alloc (bl_alloc (bl_alloc (Below.refl _ _) _) _) _
  have r6 : Row w6 SB 95 [.pointer (some ⟨d, 0, none⟩), .pointer (some p), .int .i64 0, .slice none 0 0, .slice (some ⟨T2, 0, none⟩) 7 7, .map (some w3.heap.size), .map (some (w3.heap.size + 1)), .int .i64 0] := by
    have r := Row.new ((w3.alloc (.map #[] 0)).alloc (.map #[] 0)) 95 [.pointer (some ⟨d, 0, none⟩), .pointer (some p), .int .i64 0, .slice none 0 0, .slice (some ⟨T2, 0, none⟩) 7 7, .map (some w3.heap.size), .map (some (w3.heap.size + 1)), .int .i64 0]
    rw [hw6, ← hSB]
    simpa using r
  have HB6 := Lib.hid (HB3.out.trans (hb6.mono HB3.out.size))
  have R6 := Lib.hid r6
  have HW6 := Lib.hid hw6
  have HSB := Lib.hid hSB
  have HT2 := Lib.hid hT2
  clear hw6 hSB hT2 hb6 r6
  simp only [HT2.out, HSB.out]
  rw [← HW6.out]
  refine (root_load (H.out.below HB6.out) h1 h2 (HE.out.below HB6.out)).mono ?_
  rintro e w7 ⟨rfl, hb7⟩
  have R7 := Lib.hid (R6.out.below hb7)
  have HB7 := Lib.hid (HB6.out.trans (hb7.mono HB6.out.size))
  clear hb7 hmm
  go_wp2_with fail
  refine (page_or SB _).mono ?_
  rintro e wx ⟨rfl, hw⟩
  subst hw
  go_wp2
  rw [← HP.out]
  have r8 := R7.out.alloc (.cells #[.int .i64 0, .slice none 0 0] 93)
  exact ⟨⟨SB, rfl, r8.cell' (i := 2) rfl, r8.lt⟩, bl_alloc HB7.out _⟩
theorem page_open_down (h : DevN w d bl calls fuse true) (h1 : 300 ≤ bl) (h2 : bl ≤ 6000) (hE : Env E B w) : Calls Tryz.prog 17 #[.pointer (some ⟨d, 0, none⟩)] w fun e w' => e = .returned (.tuple #[.pointer none, errV E 1]) ∧ Below w.heap.size w w' := by
  have H := Lib.hid h
  have HE := Lib.hid hE
  have hmm := @run_makeMap Tryz.prog
  generalize hP : (fun (e : Ending) (w' : World) => e = .returned (.tuple #[.pointer none, errV E 1]) ∧ Below w.heap.size w w') = Post
  have HP := Lib.hid hP
  clear hP
  go_enter Tryz.func17, Tryz.ntmps17
  go_wp2_with fail
  refine (pair_open h h1 h2).mono ?_
  rintro e w2 ⟨⟨p, rfl⟩, hb2⟩
  have HB2 := Lib.hid hb2
  clear hb2
  go_wp2_with (at_make; refine wpList_mkN _ rfl _ _ _ rfl 101 (.agg #[.int .i64 0, .int .u32 0]) 2 16 Tryz.underlying90 refInfo 7 rfl rfl (by omega) (by unfold maxLen; omega) ?_; intro w3 hb3; have HB3 := Lib.hid (HB2.out.trans (hb3.mono HB2.out.size)); clear hb3)
  obtain ⟨SB, hSB⟩ : ∃ SB, w3.heap.size + 1 + 1 = SB := ⟨_, rfl⟩
  obtain ⟨T2, hT2⟩ : ∃ T2, w2.heap.size = T2 := ⟨_, rfl⟩
  obtain ⟨w6, hw6⟩ : ∃ w6, w6 = ((w3.alloc (.map #[] 0)).alloc (.map #[] 0)).alloc (.cells #[.pointer (some ⟨d, 0, none⟩), .pointer (some p), .int .i64 0, .slice none 0 0, .slice (some ⟨T2, 0, none⟩) 7 7, .map (some w3.heap.size), .map (some (w3.heap.size + 1)), .int .i64 0] 95) := ⟨_, rfl⟩
  have hb6 : Below w3.heap.size w3 w6 := by rw [hw6]; exact bl_alloc (bl_alloc (bl_alloc (Below.refl _ _) _) _) _
  have r6 : Row w6 SB 95 [.pointer (some ⟨d, 0, none⟩), .pointer (some p), .int .i64 0, .slice none 0 0, .slice (some ⟨T2, 0, none⟩) 7 7, .map (some w3.heap.size), .map (some (w3.heap.size + 1)), .int .i64 0] := by
    have r := Row.new ((w3.alloc (.map #[] 0)).alloc (.map #[] 0)) 95 [.pointer (some ⟨d, 0, none⟩), .pointer (some p), .int .i64 0, .slice none 0 0, .slice (some ⟨T2, 0, none⟩) 7 7, .map (some w3.heap.size), .map (some (w3.heap.size + 1)), .int .i64 0]
    rw [hw6, ← hSB]
    simpa using r
  have HB6 := Lib.hid (HB3.out.trans (hb6.mono HB3.out.size))
  have R6 := Lib.hid r6
  have HW6 := Lib.hid hw6
  have HSB := Lib.hid hSB
  have HT2 := Lib.hid hT2
  clear hw6 hSB hT2 hb6 r6
  simp only [HT2.out, HSB.out]
  rw [← HW6.out]
  refine (root_load_down (H.out.below HB6.out) h1 h2 (HE.out.below HB6.out)).mono ?_
  rintro e w7 ⟨rfl, hb7⟩
  have R7 := Lib.hid (R6.out.below hb7)
  have HB7 := Lib.hid (HB6.out.trans (hb7.mono HB6.out.size))
  clear hb7 hmm
  go_wp2_with fail
  refine (page_or_down SB _ 1).mono ?_
  rintro e wx ⟨rfl, hw⟩
  subst hw
  go_wp2
  rw [← HP.out]
  exact ⟨rfl, bl_alloc HB7.out _⟩
theorem fsck_refused (w : World) (hE : Env E B w) : Calls Tryz.prog 18 #[errV E 1] w fun e w' => e = .returned (errV E 1) ∧ w = w' := by
  have he := hE.cell 1 (by decide)
  have hl2 : 1 < w.heap.size := Nat.lt_of_lt_of_le (hE.glt 1 (by decide)) hE.size
  have hl2_z : 0 < w.heap.size := Nat.lt_of_le_of_lt (Nat.zero_le _) hl2
  have hq := run_eql_err_same (E 1) w
  go_enter Tryz.func18, Tryz.ntmps18
  go_wp2
  go_ret
  exact ⟨rfl, rfl⟩
/-- Report{}. -/
abbrev repZ : Value := .agg #[.int .i64 0, .int .i64 0, .slice none 0 0, .slice none 0 0, .bool false]
abbrev repC : List Value := [.int .i64 0, .int .i64 0, .slice none 0 0, .slice none 0 0, .bool false]
set_option maxHeartbeats 1000000 in
theorem fsck_check (h : DevN w d bl calls fuse false) (h1 : 300 ≤ bl) (h2 : bl ≤ 6000) (hE : Env E B w) : Calls Tryz.prog 9 #[.pointer (some ⟨d, 0, none⟩)] w fun e w' => e = .returned (.tuple #[repZ, errV E 2]) ∧ Below w.heap.size w w' := by
  have H := Lib.hid h
  have HE := Lib.hid hE
  obtain ⟨C, hC⟩ : ∃ C, w.heap.size = C := ⟨_, rfl⟩
  obtain ⟨w1, hw1⟩ : ∃ w1, w1 = w.alloc (.cells repC.toArray 34) := ⟨_, rfl⟩
  have hb1 : Below w.heap.size w w1 := by rw [hw1]; exact bl_alloc (Below.refl _ _) _
  have R1 : Hid (Row w1 C 34 repC) := Lib.hid (by rw [hw1, ← hC]; exact Row.new _ _ _)
  have HB1 := Lib.hid hb1
  have HW1 := Lib.hid hw1
  have HC := Lib.hid hC
  have HCC : Hid (w.heap.size ≤ C) := Lib.hid (Nat.le_of_eq hC)
  generalize hP : (fun (e : Ending) (w' : World) => e = .returned (.tuple #[repZ, errV E 2]) ∧ Below w.heap.size w w') = Post
  have HP := Lib.hid hP
  clear hP h hE hC hw1 hb1
  go_enter Tryz.func9, Tryz.ntmps9
  go_wp2_with fail
  rw [← HW1.out]
  simp only [HC.out]
  refine (dev_blocks (H.out.below HB1.out)).mono ?_
  rintro e wx ⟨rfl, hw⟩
  subst hw
  go_wp2_with fail
  refine (geo_ok h1 h2 w1).mono ?_
  rintro e w2 ⟨rfl, hb2⟩
  have HB2 := Lib.hid (HB1.out.trans (hb2.mono HB1.out.size))
  have R2 := Lib.hid (R1.out.below hb2)
  clear hb2
  go_upto_region 4 with fail
  obtain ⟨w3, hw3⟩ : ∃ w3, w3 = w2.alloc (.cells #[.int .i64 bl, .int .i64 (halfOf bl)] 47) := ⟨_, rfl⟩
  have hb3 : Below w2.heap.size w2 w3 := by rw [hw3]; exact bl_alloc (Below.refl _ _) _
  have HB3 := Lib.hid (HB2.out.trans (hb3.mono HB2.out.size))
  have R3 := Lib.hid (R2.out.below hb3)
  have HW3 := Lib.hid hw3
  clear hb3 hw3
  rw [← HW3.out]
  go_wp2_with fail
  refine (page_open (H.out.below HB3.out) h1 h2 (HE.out.below HB3.out)).mono ?_
  rintro e w4 ⟨⟨s, rfl, hc, hs⟩, hb4⟩
  have HB9 := Lib.hid (HB3.out.trans (hb4.mono HB3.out.size))
  have r9 := R3.out.below hb4
  have R9 := Lib.hid r9
  clear hb4 r9
  go_wp2_with fail
  refine (page_epoch hc hs).mono ?_
  rintro e wx ⟨rfl, hw⟩
  subst hw
  have e9 := HE.out.below HB9.out
  have he := e9.cell 2 (by decide)
  have hl2 : 2 < w4.heap.size := Nat.lt_of_lt_of_le (e9.glt 2 (by decide)) e9.size
  have hne : ¬ 2 = C := by have h1 := e9.size; have h2 := HE.out.glt 2 (by decide); have h3 := HE.out.size; have h4 := HCC.out; omega
  have hne2 : ¬ C = 2 := fun e => hne e.symm
  have r9 := R9.out
  clear e9
  have x0 := r9.cell' (i := 0) rfl
  have x1 := r9.cell' (i := 1) rfl
  have x2 := r9.cell' (i := 2) rfl
  have x3 := r9.cell' (i := 3) rfl
  have x4 := r9.cell' (i := 4) rfl
  have xf := fun i => r9.froz i
  have xl := r9.lt
  clear r9
  go_wp2_with fail
  go_region
  go_wp2
  rw [← HP.out]
  refine bodyPost_ret (v := .tuple #[repZ, errV E 2]) (by simp [results, Tryz.results9, go_sem, x0, x1, x2, x3, x4, xl]) rfl ⟨rfl, ?_⟩
  repeat (first | with_reducible exact HB9.out | with_reducible refine Below.setCell ?_ HCC.out _ | with_reducible refine Below.drew ?_)
set_option maxHeartbeats 1000000 in
theorem fsck_check_down (h : DevN w d bl calls fuse true) (h1 : 300 ≤ bl) (h2 : bl ≤ 6000) (hE : Env E B w) : Calls Tryz.prog 9 #[.pointer (some ⟨d, 0, none⟩)] w fun e w' => e = .returned (.tuple #[repZ, errV E 1]) ∧ Below w.heap.size w w' := by
  have H := Lib.hid h
  have HE := Lib.hid hE
  obtain ⟨C, hC⟩ : ∃ C, w.heap.size = C := ⟨_, rfl⟩
  obtain ⟨w1, hw1⟩ : ∃ w1, w1 = w.alloc (.cells repC.toArray 34) := ⟨_, rfl⟩
  have hb1 : Below w.heap.size w w1 := by rw [hw1]; exact bl_alloc (Below.refl _ _) _
  have R1 : Hid (Row w1 C 34 repC) := Lib.hid (by rw [hw1, ← hC]; exact Row.new _ _ _)
  have HB1 := Lib.hid hb1
  have HW1 := Lib.hid hw1
  have HC := Lib.hid hC
  have HCC : Hid (w.heap.size ≤ C) := Lib.hid (Nat.le_of_eq hC)
  generalize hP : (fun (e : Ending) (w' : World) => e = .returned (.tuple #[repZ, errV E 1]) ∧ Below w.heap.size w w') = Post
  have HP := Lib.hid hP
  clear hP h hE hC hw1 hb1
  go_enter Tryz.func9, Tryz.ntmps9
  go_wp2_with fail
  rw [← HW1.out]
  simp only [HC.out]
  refine (dev_blocks (H.out.below HB1.out)).mono ?_
  rintro e wx ⟨rfl, hw⟩
  subst hw
  go_wp2_with fail
  refine (geo_ok h1 h2 w1).mono ?_
  rintro e w2 ⟨rfl, hb2⟩
  have HB2 := Lib.hid (HB1.out.trans (hb2.mono HB1.out.size))
  have R2 := Lib.hid (R1.out.below hb2)
  clear hb2
  go_upto_region 4 with fail
  obtain ⟨w3, hw3⟩ : ∃ w3, w3 = w2.alloc (.cells #[.int .i64 bl, .int .i64 (halfOf bl)] 47) := ⟨_, rfl⟩
  have hb3 : Below w2.heap.size w2 w3 := by rw [hw3]; exact bl_alloc (Below.refl _ _) _
  have HB3 := Lib.hid (HB2.out.trans (hb3.mono HB2.out.size))
  have R3 := Lib.hid (R2.out.below hb3)
  have HW3 := Lib.hid hw3
  clear hb3 hw3
  rw [← HW3.out]
  go_wp2_with fail
  refine (page_open_down (H.out.below HB3.out) h1 h2 (HE.out.below HB3.out)).mono ?_
  rintro e w4 ⟨rfl, hb4⟩
  have HB9 := Lib.hid (HB3.out.trans (hb4.mono HB3.out.size))
  have R9 := Lib.hid (R3.out.below hb4)
  clear hb4
  go_wp2_with fail
  refine (fsck_refused w4 (HE.out.below HB9.out)).mono ?_
  rintro e wx ⟨rfl, hw⟩
  subst hw
  have r9 := R9.out
  have x0 := r9.cell' (i := 0) rfl
  have x1 := r9.cell' (i := 1) rfl
  have x2 := r9.cell' (i := 2) rfl
  have x3 := r9.cell' (i := 3) rfl
  have x4 := r9.cell' (i := 4) rfl
  have xf := fun i => r9.froz i
  have xl := r9.lt
  clear r9
  go_wp2
  rw [← HP.out]
  refine bodyPost_ret (v := .tuple #[repZ, errV E 1]) (by simp [results, Tryz.results9, go_sem, x0, x1, x2, x3, x4, xl]) rfl ⟨rfl, ?_⟩
  repeat (first | with_reducible exact HB9.out | with_reducible refine Below.setCell ?_ HCC.out _ | with_reducible refine Below.drew ?_)
set_option maxHeartbeats 1000000 in
theorem fsck_check_bad (h : DevN w d bl calls fuse dn) (h1 : bl < 300) (hE : Env E B w) : Calls Tryz.prog 9 #[.pointer (some ⟨d, 0, none⟩)] w fun e w' => e = .returned (.tuple #[repZ, errV E 0]) ∧ Below w.heap.size w w' := by
  have H := Lib.hid h
  have HE := Lib.hid hE
  obtain ⟨C, hC⟩ : ∃ C, w.heap.size = C := ⟨_, rfl⟩
  obtain ⟨w1, hw1⟩ : ∃ w1, w1 = w.alloc (.cells repC.toArray 34) := ⟨_, rfl⟩
  have hb1 : Below w.heap.size w w1 := by rw [hw1]; exact bl_alloc (Below.refl _ _) _
  have R1 : Hid (Row w1 C 34 repC) := Lib.hid (by rw [hw1, ← hC]; exact Row.new _ _ _)
  have HB1 := Lib.hid hb1
  have HW1 := Lib.hid hw1
  have HC := Lib.hid hC
  have HCC : Hid (w.heap.size ≤ C) := Lib.hid (Nat.le_of_eq hC)
  generalize hP : (fun (e : Ending) (w' : World) => e = .returned (.tuple #[repZ, errV E 0]) ∧ Below w.heap.size w w') = Post
  have HP := Lib.hid hP
  clear hP h hE hC hw1 hb1
  go_enter Tryz.func9, Tryz.ntmps9
  go_wp2_with fail
  rw [← HW1.out]
  simp only [HC.out]
  refine (dev_blocks (H.out.below HB1.out)).mono ?_
  rintro e wx ⟨rfl, hw⟩
  subst hw
  go_wp2_with fail
  refine (geo_bad h1 w1 (HE.out.below HB1.out)).mono ?_
  rintro e w2 ⟨rfl, hb2⟩
  have HB2 := Lib.hid (HB1.out.trans (hb2.mono HB1.out.size))
  have R2 := Lib.hid (R1.out.below hb2)
  clear hb2
  go_upto_region 2 with fail
  obtain ⟨w3, hw3⟩ : ∃ w3, w3 = w2.alloc (.cells #[.int .i64 0, .int .i64 0] 47) := ⟨_, rfl⟩
  have hb3 : Below w2.heap.size w2 w3 := by rw [hw3]; exact bl_alloc (Below.refl _ _) _
  have HB9 := Lib.hid (HB2.out.trans (hb3.mono HB2.out.size))
  have r9 := R2.out.below hb3
  have HW3 := Lib.hid hw3
  clear hb3 hw3
  rw [← HW3.out]
  have x0 := r9.cell' (i := 0) rfl
  have x1 := r9.cell' (i := 1) rfl
  have x2 := r9.cell' (i := 2) rfl
  have x3 := r9.cell' (i := 3) rfl
  have x4 := r9.cell' (i := 4) rfl
  have xf := fun i => r9.froz i
  have xl := r9.lt
  clear r9
  go_wp2
  rw [← HP.out]
  refine bodyPost_ret (v := .tuple #[repZ, errV E 0]) (by simp [results, Tryz.results9, go_sem, x0, x1, x2, x3, x4, xl]) rfl ⟨rfl, ?_⟩
  repeat (first | with_reducible exact HB9.out | with_reducible refine Below.setCell ?_ HCC.out _ | with_reducible refine Below.drew ?_)
end Go.Proofs.YtcjebpplmoakkaaGreatDoor
