/- Merged texts: VolFirst. -/
import Derived.Test.YtjekpbkmhgfhoaaGreatDoorGBase42
import Derived.Test.YtjekpbkmhgfhoaaGreatDoorGBase28
import Derived.Lib.SlBytesConst
section
/- The chapter's first examples. -/
namespace Go.Proofs.YtjekpbkmhgfhoaaGreatDoor
open Go Go.RowKit
set_option maxRecDepth 100000
set_option linter.unusedSimpArgs false
set_option linter.unusedVariables false
attribute [local go_sem] giv
abbrev nmB1 : ByteArray := ⟨#[97]⟩
abbrev pA : ByteArray := ⟨#[47, 97]⟩
theorem pA_parse : (parseP pA).1 = 0 := by rfl
theorem pA_look : (lookT newSt pA true).1 = 109 := by rfl
theorem pA_last : (lastP newSt (parseP pA).2).1 = 0 ∧ (lastP newSt (parseP pA).2).2.node = 0 := by exact ⟨rfl, rfl⟩
theorem pA_make : makeT newSt pA 1 noText = (0, 2, (fileV nmB1 (fun _ => none) 0 0 0).st) := by rfl
theorem createA_newA (q : Int) : createA pA (newV q) = (0, 0, fileV nmB1 (fun _ => none) 0 0 q) := by
  have h1 : (newV q).st = newSt := rfl
  unfold createA
  simp only [h1, pA_make]
  rw [if_neg (by simp)]
  unfold newV
  rw [openF_new]
  unfold fileV
  simp only [Prod.mk.injEq, true_and, V.mk.injEq, and_true]
  funext k i
  split <;> rfl
theorem open_newA {q : Int} (hq : 3 ≤ q) : openV (newV q) pA true = (0, 0, fileV nmB1 (fun _ => none) 0 0 q) := by
  have h1 : (newV q).st = newSt := rfl
  have hT : triedV (newV q) (fun c => ((createA pA c).1, (createA pA c).2.2)) = (0, fileV nmB1 (fun _ => none) 0 0 q) := by
    unfold triedV
    simp only [createA_newA]
    rw [if_neg (by simp), file_charge, nBlk_none, if_neg]
    have : (newV q).quota = q := rfl
    omega
  have hC : createV (newV q) pA = (0, 0, fileV nmB1 (fun _ => none) 0 0 q) := by
    unfold createV
    simp only [h1, hT, createA_newA]
    rw [if_neg (by rw [pA_parse]; simp), if_neg (by rw [pA_last.1]; simp), if_neg (by rw [pA_last.2]; simp), if_neg (by simp)]
  unfold openV
  simp only [h1]
  rw [if_pos ⟨pA_look, trivial⟩, hC]
theorem first_write : writeV (fileV nmB1 (fun _ => none) 0 0 100) 0 [97, 98, 99] = (0, 3, fileV nmB1 (layAt (fun _ => none) 0 [97, 98, 99]) 3 3 100) := by
  have h := file_write (nm := nmB1) (g := fun _ => none) (sz := 0) (pos := 0) (q := 100) (b := [97, 98, 99]) (by decide) (by decide) (by simp) (by decide) (fun i h => by cases h) (by
    have := nBlk_laid (at' := 0) (b := [97, 98, 99]) (by simp) (by decide)
    simp only [Int.toNat_zero]
    rw [this]
    decide)
  exact h
theorem first_count : (fileV nmB1 (layAt (fun _ => none) 0 [97, 98, 99]) 3 3 100).nodes = 2 := by rfl
section
variable {E : Nat → Addr} {w w' : World}
set_option maxHeartbeats 4000000 in
theorem first_any (hE : EnvM E w.heap.size w) : Calls Tryz.prog 5 #[] w fun e w' => e = .returned (.bool true) ∧ Below w.heap.size w w' := by
  generalize hP : (fun (e : Ending) (w' : World) => e = .returned (.bool true) ∧ Below w.heap.size w w') = Post
  have HP := Lib.hid hP
  have HE := Lib.hid hE
  clear hP hE
  go_enter Tryz.func5, Tryz.ntmps5
  go_wp2_with fail
  refine (vnew_any (L := fun _ => False) HE.out (fun _ h => h.elim) 100).mono ?_
  rintro e w1 ⟨⟨p, rfl, hv1, hpv⟩, hb1⟩
  have V1 := Lib.hid hv1
  have HB1 := Lib.hid hb1
  clear hv1 hb1 hpv
  go_wp2_with fail
  refine (vopen_new V1.out (x := pA) pA_look).mono ?_
  rintro e w2 ⟨rfl, h2, k2⟩
  rw [open_newA (by decide)] at h2 ⊢
  have V2 := Lib.hid h2
  have K2 := Lib.hid k2
  clear h2 k2
  obtain ⟨C, hC⟩ : ∃ C, w2.heap.size = C := ⟨_, rfl⟩
  obtain ⟨w3, hw3⟩ : ∃ w3, w3 = w2.alloc (.cells #[.int .u8 97, .int .u8 98, .int .u8 99] 5 (3, 4)) := ⟨_, rfl⟩
  have hb3 : Below w2.heap.size w2 w3 := by rw [hw3]; exact bl_alloc (Below.refl _ _) _
  have hcell : ∀ j, w3.cell? ⟨C, j, none⟩ = (#[Value.int .u8 97, .int .u8 98, .int .u8 99] : Array Value)[j]? := fun j => by rw [hw3, ← hC]; exact World.cell?_alloc_mark w2 _ _ _ j
  have hlt : C < w3.heap.size := by rw [hw3, ← hC]; simp
  have V3 := Lib.hid (V2.out.below hb3)
  have K3 := Lib.hid (K2.out.then hb3)
  have HW3 := Lib.hid hw3
  have HC := Lib.hid hC
  have S3 : Hid (SlK w.heap.size (fun _ => False) w3 (some ⟨C, 0, none⟩) [97, 98, 99]) := Lib.hid (fun _ => ⟨C, 0, rfl, .inr (.inr ⟨.int .u8 97, hcell 0, plainI _ _⟩), hlt, fun i hi => by
    have h3 : i = 0 ∨ i = 1 ∨ i = 2 := by simp at hi; omega
    rw [Nat.zero_add]
    rcases h3 with rfl | rfl | rfl
    · exact hcell 0
    · exact hcell 1
    · exact hcell 2⟩)
  clear hw3 hb3 hC hcell hlt
  rw [errOf_zero]
  have hcv := Lib.run_convert_bytes_const (P := Tryz.prog) w2 31 5 #[.int .u8 97, .int .u8 98, .int .u8 99] 3 3 Tryz.underlying31 Tryz.underlying5
  go_wp2_with fail
  rw [← HW3.out]
  simp only [HC.out]
  refine (vwrite_any (b := [97, 98, 99]) (cap := 3) V3.out (fd := 0) (x := ⟨2, 0⟩) rfl (r := ⟨⟨2, 1, 1, 0, noText, 0⟩, []⟩) rfl rfl (fun i h => by cases h) S3.out (by decide) (by decide)).mono ?_
  rintro e w4 ⟨rfl, h4, k4⟩
  rw [first_write] at h4 ⊢
  have V4 := Lib.hid h4
  have K4 := Lib.hid (K3.out.trans k4)
  clear h4 k4
  rw [errOf_zero]
  go_wp2_with fail
  refine (vread_any V4.out (fd := 0) (x := ⟨2, 3⟩) rfl (r := ⟨⟨2, 1, 1, 3, noText, 0⟩, []⟩) rfl (laid_lost (fun i h => by cases h) 0 [97, 98, 99]) (m := 5) (in64_of (by decide) (by decide)) (by decide)).mono ?_
  rintro e w5 ⟨⟨v, rfl, hs⟩, h5, k5⟩
  rw [show readV (fileV nmB1 (layAt (fun _ => none) 0 [97, 98, 99]) 3 3 100) 0 5 = (0, [], fileV nmB1 (layAt (fun _ => none) 0 [97, 98, 99]) 3 3 100) from file_end (by decide) (by decide)] at h5 hs ⊢
  have V5 := Lib.hid h5
  have K5 := Lib.hid (K4.out.trans k5)
  obtain ⟨sp, cap, hv⟩ := hs.shape
  subst hv
  clear h5 k5 hs
  rw [errOf_zero]
  simp only [List.length_nil]
  go_wp2_with fail
  refine (vcount_any V5.out).mono ?_
  rintro e w6 ⟨rfl, h6, k6⟩
  have V6 := Lib.hid h6
  have K6 := Lib.hid (K5.out.trans k6)
  rw [first_count]
  clear h6 k6
  have hfl : ∀ (a b c : Int) (w : World), (Instr.field 36 (.agg #[.int .i64 a, .int .i64 b, .int .i64 c]) 0).run Tryz.prog w = .ok (.int .i64 a) w := fun _ _ _ _ => rfl
  go_wp2
  rw [← HP.out]
  have hb : Below w.heap.size w w6 := HB1.out.trans ((Touch.below (S := fun x => (w.heap.size ≤ x ∧ ¬ False ∧ ¬ Plain w1 x) ∨ NoB x) K6.out HB1.out.size (fun x hx => hx.elim (fun h => h.1) (fun h => h.elim))))
  first
    | exact ⟨rfl, hb⟩
    | (go_ret; exact ⟨rfl, hb⟩)
end
end Go.Proofs.YtjekpbkmhgfhoaaGreatDoor
end
