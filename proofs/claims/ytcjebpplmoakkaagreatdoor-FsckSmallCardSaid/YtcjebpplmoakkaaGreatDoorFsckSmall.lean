/- The walk of FsckSmall. -/
import Derived.Test.YtcjebpplmoakkaaGreatDoorFsckL
import Derived.Test.YtcjebpplmoakkaaGreatDoorNumb
namespace Go.Proofs.YtcjebpplmoakkaaGreatDoor
open Go Go.RowKit
set_option maxRecDepth 100000
set_option linter.unusedSimpArgs false
set_option linter.unusedVariables false
attribute [local go_sem] giv
variable {E : Nat → Addr} {B : Nat} {w w' : World}
set_option maxHeartbeats 1000000 in
theorem fsfirst_any (w : World) (hE : Env E B w) : Calls Tryz.prog 4 #[] w fun e w' => e = .returned (.bool true) ∧ Below w.heap.size w w' := by
  have HE := Lib.hid hE
  generalize hP : (fun (e : Ending) (w' : World) => e = .returned (.bool true) ∧ Below w.heap.size w w') = Post
  have HP := Lib.hid hP
  clear hP hE
  go_enter Tryz.func4, Tryz.ntmps4
  go_wp2_with fail
  refine (dev_new (bl := 400) (by decide) (by decide) w).mono ?_
  rintro e w1 ⟨⟨d, rfl, h1, hd⟩, hb1⟩
  have H1 := Lib.hid h1
  have HB1 := Lib.hid hb1
  clear h1 hb1 hd
  go_wp2_with fail
  refine (fsck_check H1.out (by decide) (by decide) (HE.out.below HB1.out)).mono ?_
  rintro e w2 ⟨rfl, hb2⟩
  have HB2 := Lib.hid (HB1.out.trans (hb2.mono HB1.out.size))
  have H2 := Lib.hid (H1.out.below hb2)
  clear hb2
  go_upto_region 5 with fail
  obtain ⟨w3, hw3⟩ : ∃ w3, w3 = w2.alloc (.cells repC.toArray 34) := ⟨_, rfl⟩
  have hb3 : Below w2.heap.size w2 w3 := by rw [hw3]; exact bl_alloc (Below.refl _ _) _
  have HB3 := Lib.hid (HB2.out.trans (hb3.mono HB2.out.size))
  have H3 := Lib.hid (H2.out.below hb3)
  have HW3 := Lib.hid hw3
  clear hb3 hw3
  rw [← HW3.out]
  go_wp2_with fail
  refine (fsck_look H3.out (by decide) (by decide) (HE.out.below HB3.out)).mono ?_
  rintro e w4 ⟨rfl, hb4⟩
  have HB4 := Lib.hid (HB3.out.trans (hb4.mono HB3.out.size))
  clear hb4
  go_upto_region 6 with fail
  obtain ⟨w5, hw5⟩ : ∃ w5, w5 = w4.alloc (.cells repC.toArray 34) := ⟨_, rfl⟩
  have hb5 : Below w4.heap.size w4 w5 := by rw [hw5]; exact bl_alloc (Below.refl _ _) _
  have HB5 := Lib.hid (HB4.out.trans (hb5.mono HB4.out.size))
  have HW5 := Lib.hid hw5
  clear hb5 hw5
  rw [← HW5.out]
  go_wp2_with fail
  refine (is_err (g := 2) (by decide) 122 w5 (HE.out.below HB5.out)).mono ?_
  rintro e w6 ⟨rfl, hb6⟩
  have HB6 := Lib.hid (HB5.out.trans (hb6.mono HB5.out.size))
  rw [show (codeOf 2 == 122) = true from by decide]
  clear hb6
  go_wp2_with fail
  refine (is_err (g := 2) (by decide) 122 w6 (HE.out.below HB6.out)).mono ?_
  rintro e w7 ⟨rfl, hb7⟩
  have HB7 := Lib.hid (HB6.out.trans (hb7.mono HB6.out.size))
  rw [show (codeOf 2 == 122) = true from by decide]
  clear hb7
  go_wp2
  rw [← HP.out]
  first
    | exact ⟨rfl, HB7.out⟩
    | (go_ret; exact ⟨rfl, HB7.out⟩)
set_option maxHeartbeats 4000000 in
theorem fscksmall_any (a : Int) (b : Bool) (w : World) (hE : Env E B w) :
    Calls Tryz.prog 3 #[.int .i64 a, .bool b] w fun e w' => e = .returned (.bool true) ∧ Below B w w' := by
  have HE := Lib.hid hE
  generalize hP : (fun (e : Ending) (w' : World) => e = .returned (.bool true) ∧ Below B w w') = Post
  have HP := Lib.hid hP
  clear hP hE
  go_enter Tryz.func3, Tryz.ntmps3
  go_wp2_with fail
  refine (fsfirst_any w HE.out).mono ?_
  rintro e w1 ⟨rfl, hb1⟩
  have HB1 := Lib.hid (hb1.mono HE.out.size)
  have HE1 := Lib.hid (HE.out.below hb1)
  clear hb1
  go_wp2_with fail
  refine (numb_any a 400 (by decide) w1).mono ?_
  rintro e wx ⟨rfl, hw⟩
  subst hw
  obtain ⟨A0, hA⟩ : ∃ A0 : Nat, a % 400 = A0 := ⟨(a % 400).toNat, by omega⟩
  rw [hA]
  obtain ⟨R, hR⟩ : ∃ R : Nat, A0 + 1 = R := ⟨_, rfl⟩
  have hwr : wrap64 ((A0 : Int) + 1) = (R : Int) := by unfold wrap64; omega
  have HR : Hid (1 ≤ R ∧ R ≤ 6000) := Lib.hid ⟨by omega, by omega⟩
  clear hA hR
  go_wp2_with fail
  try rw [hwr]
  clear hwr
  refine (dev_new HR.out.1 HR.out.2 w1).mono ?_
  rintro e w2 ⟨⟨d, rfl, h2, hd⟩, hb2⟩
  have H2 := Lib.hid h2
  have HB2 := Lib.hid (HB1.out.trans (hb2.mono HE1.out.size))
  have HE2 := Lib.hid (HE1.out.below hb2)
  have HD : Hid (B ≤ d) := Lib.hid (Nat.le_trans HE1.out.size hd)
  clear h2 hb2 hd
  cases b
  case false =>
    by_cases hlt : R < 300
    case pos =>
      have hlt2 : (R : Int) < 300 := by omega
      go_wp2_with fail
      clear hlt2
      refine (fsck_check_bad H2.out hlt HE2.out).mono ?_
      rintro e w5 ⟨rfl, hb5⟩
      obtain ⟨w6, hw6⟩ : ∃ w6, w6 = w5.alloc (.cells repC.toArray 34) := ⟨_, rfl⟩
      have hb6 : Below w5.heap.size w5 w6 := by rw [hw6]; exact bl_alloc (Below.refl _ _) _
      have hb56 : Below w2.heap.size w2 w6 := hb5.trans (hb6.mono hb5.size)
      have HB6 := Lib.hid (HB2.out.trans (hb56.mono HE2.out.size))
      have H6 := Lib.hid (H2.out.below hb56)
      have HE6 := Lib.hid (HE2.out.below hb56)
      have HW6 := Lib.hid hw6
      clear hb5 hb6 hb56 hw6
      go_upto_region 16 with fail
      rw [← HW6.out]
      go_wp2_with fail
      refine (fsck_look_bad H6.out hlt HE6.out).mono ?_
      rintro e w7 ⟨rfl, hb7⟩
      obtain ⟨w8, hw8⟩ : ∃ w8, w8 = w7.alloc (.cells repC.toArray 34) := ⟨_, rfl⟩
      have hb8 : Below w7.heap.size w7 w8 := by rw [hw8]; exact bl_alloc (Below.refl _ _) _
      have hb78 : Below w6.heap.size w6 w8 := hb7.trans (hb8.mono hb7.size)
      have HB8 := Lib.hid (HB6.out.trans (hb78.mono HE6.out.size))
      have H8 := Lib.hid (H6.out.below hb78)
      have HE8 := Lib.hid (HE6.out.below hb78)
      have HW8 := Lib.hid hw8
      clear hb7 hb8 hb78 hw8
      go_upto_region 17 with fail
      rw [← HW8.out]
      go_wp2_with fail
      refine (is_err (g := 0) (by decide) 103 w8 HE8.out).mono ?_
      rintro e w9 ⟨rfl, hb9⟩
      have HB9 := Lib.hid (HB8.out.trans (hb9.mono HE8.out.size))
      have HE9 := Lib.hid (HE8.out.below hb9)
      have H9 := Lib.hid (H8.out.below hb9)
      rw [show (codeOf 0 == 103) = true from by decide]
      clear hb9
      go_wp2_with fail
      refine (is_err (g := 0) (by decide) 103 w9 HE9.out).mono ?_
      rintro e wa ⟨rfl, hba⟩
      have HBA := Lib.hid (HB9.out.trans (hba.mono HE9.out.size))
      have HA := Lib.hid (H9.out.below hba)
      rw [show (codeOf 0 == 103) = true from by decide]
      clear hba
      go_wp2_with fail
      refine (dev_calls HA.out).mono ?_
      rintro e wx ⟨rfl, hw⟩
      subst hw
      go_wp2
      rw [← HP.out]
      first
        | exact ⟨rfl, HBA.out⟩
        | (go_ret; exact ⟨rfl, HBA.out⟩)
    case neg =>
      have hlt2 : ¬ (R : Int) < 300 := by omega
      have h300 : 300 ≤ R := by omega
      go_wp2_with fail
      clear hlt2
      refine (fsck_check H2.out h300 HR.out.2 HE2.out).mono ?_
      rintro e w5 ⟨rfl, hb5⟩
      obtain ⟨w6, hw6⟩ : ∃ w6, w6 = w5.alloc (.cells repC.toArray 34) := ⟨_, rfl⟩
      have hb6 : Below w5.heap.size w5 w6 := by rw [hw6]; exact bl_alloc (Below.refl _ _) _
      have hb56 : Below w2.heap.size w2 w6 := hb5.trans (hb6.mono hb5.size)
      have HB6 := Lib.hid (HB2.out.trans (hb56.mono HE2.out.size))
      have H6 := Lib.hid (H2.out.below hb56)
      have HE6 := Lib.hid (HE2.out.below hb56)
      have HW6 := Lib.hid hw6
      clear hb5 hb6 hb56 hw6
      go_upto_region 16 with fail
      rw [← HW6.out]
      go_wp2_with fail
      refine (fsck_look H6.out h300 HR.out.2 HE6.out).mono ?_
      rintro e w7 ⟨rfl, hb7⟩
      obtain ⟨w8, hw8⟩ : ∃ w8, w8 = w7.alloc (.cells repC.toArray 34) := ⟨_, rfl⟩
      have hb8 : Below w7.heap.size w7 w8 := by rw [hw8]; exact bl_alloc (Below.refl _ _) _
      have hb78 : Below w6.heap.size w6 w8 := hb7.trans (hb8.mono hb7.size)
      have HB8 := Lib.hid (HB6.out.trans (hb78.mono HE6.out.size))
      have H8 := Lib.hid (H6.out.below hb78)
      have HE8 := Lib.hid (HE6.out.below hb78)
      have HW8 := Lib.hid hw8
      clear hb7 hb8 hb78 hw8
      go_upto_region 17 with fail
      rw [← HW8.out]
      go_wp2_with fail
      refine (is_err (g := 2) (by decide) 122 w8 HE8.out).mono ?_
      rintro e w9 ⟨rfl, hb9⟩
      have HB9 := Lib.hid (HB8.out.trans (hb9.mono HE8.out.size))
      have HE9 := Lib.hid (HE8.out.below hb9)
      have H9 := Lib.hid (H8.out.below hb9)
      rw [show (codeOf 2 == 122) = true from by decide]
      clear hb9
      go_wp2_with fail
      refine (is_err (g := 2) (by decide) 122 w9 HE9.out).mono ?_
      rintro e wa ⟨rfl, hba⟩
      have HBA := Lib.hid (HB9.out.trans (hba.mono HE9.out.size))
      have HA := Lib.hid (H9.out.below hba)
      rw [show (codeOf 2 == 122) = true from by decide]
      clear hba
      go_wp2_with fail
      refine (dev_calls HA.out).mono ?_
      rintro e wx ⟨rfl, hw⟩
      subst hw
      go_wp2
      rw [← HP.out]
      first
        | exact ⟨rfl, HBA.out⟩
        | (go_ret; exact ⟨rfl, HBA.out⟩)
  case true =>
    go_wp2_with fail
    refine (dev_arm H2.out).mono ?_
    rintro e w3 ⟨rfl, h3, t3⟩
    have H3 := Lib.hid h3
    have b3 : Below B w2 w3 := t3.below HE2.out.size fun x hx => by rw [hx]; exact HD.out
    have HB3 := Lib.hid (HB2.out.trans b3)
    have HE3 := Lib.hid (HE2.out.keep b3)
    clear h3 t3 b3
    go_wp2_with fail
    refine (dev_fall H3.out HE3.out HD.out).mono ?_
    rintro e w4 ⟨rfl, h4, t4⟩
    have H4 := Lib.hid h4
    have b4 : Below B w3 w4 := t4.below HE3.out.size fun x hx => by rw [hx]; exact HD.out
    have HB4 := Lib.hid (HB3.out.trans b4)
    have HE4 := Lib.hid (HE3.out.keep b4)
    clear h4 t4 b4
    by_cases hlt : R < 300
    case pos =>
      have hlt2 : (R : Int) < 300 := by omega
      go_wp2_with fail
      clear hlt2
      refine (fsck_check_bad H4.out hlt HE4.out).mono ?_
      rintro e w5 ⟨rfl, hb5⟩
      obtain ⟨w6, hw6⟩ : ∃ w6, w6 = w5.alloc (.cells repC.toArray 34) := ⟨_, rfl⟩
      have hb6 : Below w5.heap.size w5 w6 := by rw [hw6]; exact bl_alloc (Below.refl _ _) _
      have hb56 : Below w4.heap.size w4 w6 := hb5.trans (hb6.mono hb5.size)
      have HB6 := Lib.hid (HB4.out.trans (hb56.mono HE4.out.size))
      have H6 := Lib.hid (H4.out.below hb56)
      have HE6 := Lib.hid (HE4.out.below hb56)
      have HW6 := Lib.hid hw6
      clear hb5 hb6 hb56 hw6
      go_upto_region 16 with fail
      rw [← HW6.out]
      go_wp2_with fail
      refine (fsck_look_bad H6.out hlt HE6.out).mono ?_
      rintro e w7 ⟨rfl, hb7⟩
      obtain ⟨w8, hw8⟩ : ∃ w8, w8 = w7.alloc (.cells repC.toArray 34) := ⟨_, rfl⟩
      have hb8 : Below w7.heap.size w7 w8 := by rw [hw8]; exact bl_alloc (Below.refl _ _) _
      have hb78 : Below w6.heap.size w6 w8 := hb7.trans (hb8.mono hb7.size)
      have HB8 := Lib.hid (HB6.out.trans (hb78.mono HE6.out.size))
      have H8 := Lib.hid (H6.out.below hb78)
      have HE8 := Lib.hid (HE6.out.below hb78)
      have HW8 := Lib.hid hw8
      clear hb7 hb8 hb78 hw8
      go_upto_region 17 with fail
      rw [← HW8.out]
      go_wp2_with fail
      refine (is_err (g := 0) (by decide) 103 w8 HE8.out).mono ?_
      rintro e w9 ⟨rfl, hb9⟩
      have HB9 := Lib.hid (HB8.out.trans (hb9.mono HE8.out.size))
      have HE9 := Lib.hid (HE8.out.below hb9)
      have H9 := Lib.hid (H8.out.below hb9)
      rw [show (codeOf 0 == 103) = true from by decide]
      clear hb9
      go_wp2_with fail
      refine (is_err (g := 0) (by decide) 103 w9 HE9.out).mono ?_
      rintro e wa ⟨rfl, hba⟩
      have HBA := Lib.hid (HB9.out.trans (hba.mono HE9.out.size))
      have HA := Lib.hid (H9.out.below hba)
      rw [show (codeOf 0 == 103) = true from by decide]
      clear hba
      go_wp2_with fail
      refine (dev_calls HA.out).mono ?_
      rintro e wx ⟨rfl, hw⟩
      subst hw
      go_wp2
      rw [← HP.out]
      first
        | exact ⟨rfl, HBA.out⟩
        | (go_ret; exact ⟨rfl, HBA.out⟩)
    case neg =>
      have hlt2 : ¬ (R : Int) < 300 := by omega
      have h300 : 300 ≤ R := by omega
      go_wp2_with fail
      clear hlt2
      refine (fsck_check_down H4.out h300 HR.out.2 HE4.out).mono ?_
      rintro e w5 ⟨rfl, hb5⟩
      obtain ⟨w6, hw6⟩ : ∃ w6, w6 = w5.alloc (.cells repC.toArray 34) := ⟨_, rfl⟩
      have hb6 : Below w5.heap.size w5 w6 := by rw [hw6]; exact bl_alloc (Below.refl _ _) _
      have hb56 : Below w4.heap.size w4 w6 := hb5.trans (hb6.mono hb5.size)
      have HB6 := Lib.hid (HB4.out.trans (hb56.mono HE4.out.size))
      have H6 := Lib.hid (H4.out.below hb56)
      have HE6 := Lib.hid (HE4.out.below hb56)
      have HW6 := Lib.hid hw6
      clear hb5 hb6 hb56 hw6
      go_upto_region 16 with fail
      rw [← HW6.out]
      go_wp2_with fail
      refine (fsck_look_down H6.out h300 HR.out.2 HE6.out).mono ?_
      rintro e w7 ⟨rfl, hb7⟩
      obtain ⟨w8, hw8⟩ : ∃ w8, w8 = w7.alloc (.cells repC.toArray 34) := ⟨_, rfl⟩
      have hb8 : Below w7.heap.size w7 w8 := by rw [hw8]; exact bl_alloc (Below.refl _ _) _
      have hb78 : Below w6.heap.size w6 w8 := hb7.trans (hb8.mono hb7.size)
      have HB8 := Lib.hid (HB6.out.trans (hb78.mono HE6.out.size))
      have H8 := Lib.hid (H6.out.below hb78)
      have HE8 := Lib.hid (HE6.out.below hb78)
      have HW8 := Lib.hid hw8
      clear hb7 hb8 hb78 hw8
      go_upto_region 17 with fail
      rw [← HW8.out]
      go_wp2_with fail
      refine (is_err (g := 1) (by decide) 106 w8 HE8.out).mono ?_
      rintro e w9 ⟨rfl, hb9⟩
      have HB9 := Lib.hid (HB8.out.trans (hb9.mono HE8.out.size))
      have HE9 := Lib.hid (HE8.out.below hb9)
      have H9 := Lib.hid (H8.out.below hb9)
      rw [show (codeOf 1 == 106) = true from by decide]
      clear hb9
      go_wp2_with fail
      refine (is_err (g := 1) (by decide) 106 w9 HE9.out).mono ?_
      rintro e wa ⟨rfl, hba⟩
      have HBA := Lib.hid (HB9.out.trans (hba.mono HE9.out.size))
      have HA := Lib.hid (H9.out.below hba)
      rw [show (codeOf 1 == 106) = true from by decide]
      clear hba
      go_wp2_with fail
      refine (dev_calls HA.out).mono ?_
      rintro e wx ⟨rfl, hw⟩
      subst hw
      go_wp2
      rw [← HP.out]
      first
        | exact ⟨rfl, HBA.out⟩
        | (go_ret; exact ⟨rfl, HBA.out⟩)
end Go.Proofs.YtcjebpplmoakkaaGreatDoor
